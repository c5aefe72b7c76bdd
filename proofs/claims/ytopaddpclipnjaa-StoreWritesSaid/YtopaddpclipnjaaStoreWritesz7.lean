/- The statement 'StoreWrites': for every input the law returns true, and each argument reads behind the call as it read before. No condition. -/
import Derived.WideShapes
import Derived.Test.YtopaddpclipnjaaRows
import Derived.WalkKit
import Derived.ProofKit
import Derived.OpenShut
import Derived.ShutString
import Derived.Below
import Derived.Carry
import Derived.Test.YtopaddpclipnjaaStoreWritesz1
import Derived.Test.YtopaddpclipnjaaStoreWritesz2
import Derived.Test.YtopaddpclipnjaaStoreWritesz5
import Derived.Test.YtopaddpclipnjaaStoreWritesz6
set_option linter.unusedVariables false
set_option linter.unusedSimpArgs false
namespace Go.Proofs.YtopaddpclipnjaaQ.P
open Go.RowKit Go.Proofs.YtopaddpclipnjaaW.PrintWords Go.Proofs.YtopaddpclipnjaaW.PrintMore Go.Proofs.Ytopaddpclipnjaa
abbrev SF := S45
def toFlt (x : SF) : Flt := ⟨x.f0, x.f1⟩
theorem rdF {xs : List SF} {i : Nat} (h : i < xs.length) : rd_T45 xs i = xs[i] := by
  unfold rd_T45
  exact getD_cast h
theorem rfault_f (x : Flt) : foghornref04_Fault.f x.kind x.k = some (fltB x) := by
  unfold foghornref04_Fault.f fltB
  by_cases h1 : x.kind ≥ 0 <;> by_cases h2 : x.kind ≤ 2 <;> by_cases h3 : x.k ≥ 0 <;> simp [h1, h2, h3]
theorem rfaults_l (xs : List SF) (hb : xs.length < 1000000) (d : Nat) : ∀ (k i : Nat), i + d = xs.length → d < k → foghornref04_Faults.l0 k xs (xs.length : Int) i = some ((xs.drop i).all fun x => fltB (toFlt x)) := by
  induction d with
  | zero =>
    intro k i h hk
    obtain ⟨k, rfl⟩ : ∃ m, k = m + 1 := ⟨k - 1, by omega⟩
    simp only [foghornref04_Faults.l0]
    rw [if_neg (by omega), drop_end (by omega)]
    rfl
  | succ d ih =>
    intro k i h hk
    obtain ⟨k, rfl⟩ : ∃ m, k = m + 1 := ⟨k - 1, by omega⟩
    have hi : i < xs.length := by omega
    simp only [foghornref04_Faults.l0]
    rw [if_pos (by omega), if_pos (by omega), if_pos (by omega), rdF hi, show foghornref04_Fault.f xs[i].f0 xs[i].f1 = _ from rfault_f (toFlt xs[i]), Option.bind_some, w64s (by omega), ih k (i + 1) (by omega) (by omega), drop_cons hi, List.all_cons]
    cases fltB (toFlt xs[i]) <;> rfl
theorem rfaults_f (xs : List SF) (hb : xs.length < 1000000) {k : Nat} (hk : xs.length < k) : foghornref04_Faults.f k xs = some (xs.all fun x => fltB (toFlt x)) := by
  unfold foghornref04_Faults.f
  have := rfaults_l xs hb xs.length k 0 (by omega) hk
  simpa using this
theorem rpays_l (xs : List ByteArray) (hb : xs.length < 1000000) (d : Nat) : ∀ (k i : Nat), i + d = xs.length → d < k → foghornref04_Payloads.l0 k xs (xs.length : Int) i = some ((xs.drop i).all fun x => decide (x.size ≤ 96)) := by
  induction d with
  | zero =>
    intro k i h hk
    obtain ⟨k, rfl⟩ : ∃ m, k = m + 1 := ⟨k - 1, by omega⟩
    simp only [foghornref04_Payloads.l0]
    rw [if_neg (by omega), drop_end (by omega)]
    rfl
  | succ d ih =>
    intro k i h hk
    obtain ⟨k, rfl⟩ : ∃ m, k = m + 1 := ⟨k - 1, by omega⟩
    have hi : i < xs.length := by omega
    simp only [foghornref04_Payloads.l0]
    rw [if_pos (by omega), if_pos (by omega), if_pos (by omega), rd_at hi, w64s (by omega), ih k (i + 1) (by omega) (by omega), drop_cons hi, List.all_cons]
    by_cases h1 : (xs[i]).size ≤ 96
    · rw [if_neg (by omega), decide_eq_true h1, Bool.true_and]
    · rw [if_pos (by omega), decide_eq_false h1, Bool.false_and]
theorem rpays_f (xs : List ByteArray) (hb : xs.length < 1000000) {k : Nat} (hk : xs.length < k) : foghornref04_Payloads.f k xs = some (xs.all fun x => decide (x.size ≤ 96)) := by
  unfold foghornref04_Payloads.f
  have := rpays_l xs hb xs.length k 0 (by omega) hk
  simpa using this
theorem rnext_f (s : Sto) (h0 : 0 ≤ s.gen) (h1 : 0 ≤ s.top) (h2 : s.top ≤ 1000) : foghornref04_Next.f s.xs s.gen s.used s.top s.down = some (nextG s) := by
  unfold foghornref04_Next.f nextG
  rw [w64 (x := s.top + 1) (by omega) (by omega), w64 (x := s.top + 2) (by omega) (by omega), tmod2 h0, tmod2 (by omega)]
  split <;> rfl
theorem okB_all {s : Sto} (h : s.okB = true) : logB s.xs = true ∧ 1 ≤ s.gen ∧ s.gen ≤ 250 ∧ 0 ≤ s.used ∧ s.used ≤ areaD s.xs ∧ s.gen ≤ s.top ∧ s.top ≤ 250 := by
  obtain ⟨h1, h2, h3, h4, h5, h6, h7, _⟩ := okB_nums h
  exact ⟨h1, h2, h3, h4, h5, h6, h7⟩
theorem rappend_f {s : Sto} (ho : s.okB = true) (hd : s.down = false) (hu : s.used ≠ areaD s.xs) {p : ByteArray} (hp : p.size ≤ 96) {f : Flt} (hf : fltB f = true) {k : Nat} (hk : 150 < k) :
    foghornref04_Append.f k s.xs s.gen s.used s.top s.down p f.kind f.k = stoOut (appS s p f) := by
  obtain ⟨xs, gen, used, top, down⟩ := s
  simp only at hd
  subst hd
  obtain ⟨hl, g1, g2, u0, u1, _, _⟩ := okB_all ho
  have hn := logB_nums hl
  simp only at hl g1 g2 u0 u1 hu hn
  have hpl := placeD_in hl (g := gen) (i := used) u0 (by omega)
  obtain ⟨e1, e2, e3⟩ := rseal_f (g := gen) (no := used + 1) (p := p) g1 g2 (by omega) (by omega) hp
  have hfl : 0 ≤ f.kind ∧ f.kind ≤ 2 := by
    unfold fltB at hf
    simp only [Bool.and_eq_true, decide_eq_true_eq] at hf
    exact ⟨hf.1.1.1, hf.1.1.2⟩
  unfold foghornref04_Append.f
  simp only
  rw [rplace_f (by omega) (by omega) u0 (by omega), Option.bind_some, w64 (x := used + 1) (by omega) (by omega), e1, Option.bind_some]
  have hw := rwr_f (s := ⟨xs, gen, used, top, false⟩) hl (by omega) hpl.2 e3 hf (k := k) (by omega)
  simp only at hw
  rw [hw, Option.bind_some]
  simp only
  unfold appS wrL stoOut
  rw [e2]
  by_cases k1 : f.kind = 1
  · simp [k1]
  · by_cases k2 : f.kind = 2
    · simp [k2]
    · simp [k1, k2]
theorem turnW_stop' {g : Int} {ys : List ByteArray} {i : Nat} {p : ByteArray} {l : List ByteArray} {fr : List Flt} (hk : ¬ (wrL ys (placeD ys g i) (sealS g (i + 1) p) (fr.headD fz)).2 = 0) : turnW g ys i (p :: l) fr = wrL ys (placeD ys g i) (sealS g (i + 1) p) (fr.headD fz) := turnW_stop rfl hk
theorem turnW_go' {g : Int} {ys : List ByteArray} {i : Nat} {p : ByteArray} {l : List ByteArray} {fr : List Flt} (hk : (wrL ys (placeD ys g i) (sealS g (i + 1) p) (fr.headD fz)).2 = 0) : turnW g ys i (p :: l) fr = turnW g (wrL ys (placeD ys g i) (sealS g (i + 1) p) (fr.headD fz)).1 (i + 1) l fr.tail := turnW_go rfl hk
theorem wrL_log {xs : List ByteArray} (hl : logB xs = true) {q : Int} (h0 : 0 ≤ q) (h1 : q < xs.length) {T : ByteArray} (hT : T.size = 128) {f : Flt} (hf : fltB f = true) : logB (wrL xs q T f).1 = true ∧ (wrL xs q T f).1.length = xs.length := by
  have hfl : 0 ≤ f.k ∧ f.k ≤ 128 := by
    unfold fltB at hf
    simp only [Bool.and_eq_true, decide_eq_true_eq] at hf
    exact ⟨hf.1.2, hf.2⟩
  have W := fun (k : Int) a b => tear_wrote hl h0 h1 hT (k := k) a b
  unfold wrL
  split
  · exact ⟨hl, rfl⟩
  · split
    · exact ⟨(W _ hfl.1 hfl.2).log, (W _ hfl.1 hfl.2).len⟩
    · exact ⟨(W 128 (by omega) (by omega)).log, (W 128 (by omega) (by omega)).len⟩
theorem rturn_l {g gen used : Int} (g1 : 1 ≤ g) (g2 : g ≤ 250) (l : List ByteArray) (hl : ∀ p ∈ l, p.size ≤ 96) (hln : l.length ≤ 64) (fs : List SF) (hfs : ∀ x ∈ fs, fltB (toFlt x) = true) (hfn : fs.length ≤ 1000000) (d : Nat) : ∀ (k i : Nat) (xs : List ByteArray), i + d = l.length → 2 * d + 160 < k → logB xs = true → (l.length : Int) ≤ areaD xs →
    foghornref04_Turn.l0 k l fs g i xs gen used g false = some ((turnW g xs i (l.drop i) ((fs.drop i).map toFlt)).1, if (turnW g xs i (l.drop i) ((fs.drop i).map toFlt)).2 = 0 then g else gen, if (turnW g xs i (l.drop i) ((fs.drop i).map toFlt)).2 = 0 then (l.length : Int) else used, g, decide ((turnW g xs i (l.drop i) ((fs.drop i).map toFlt)).2 = 9), (turnW g xs i (l.drop i) ((fs.drop i).map toFlt)).2) := by
  have hflt : ∀ i : Nat, fltB (((fs.drop i).map toFlt).headD fz) = true := by
    intro i
    cases h : fs.drop i with
    | nil => decide
    | cons x r => exact hfs x (List.mem_of_mem_drop (by rw [h]; exact List.mem_cons_self))
  have hj : ∀ (k i : Nat) (xs : List ByteArray), foghornref04_Turn.l0 (k + 1) l fs g i xs gen used g false = if (i : Int) ≤ l.length then foghornref04_Turn.j1 k l fs g i xs gen used g false (((fs.drop i).map toFlt).headD fz).kind (((fs.drop i).map toFlt).headD fz).k else some (xs, g, (l.length : Int), g, false, 0) := by
    intro k i xs
    simp only [foghornref04_Turn.l0]
    by_cases h1 : (i : Int) ≤ l.length
    · rw [if_pos h1, if_pos h1]
      by_cases h2 : i < fs.length
      · rw [if_pos (by omega), if_pos (by omega), rdF h2, drop_cons h2]
        rfl
      · rw [if_neg (by omega), drop_end (by omega)]
        rfl
    · rw [if_neg h1, if_neg h1]
  have hs0 := rseal_f (g := g) (no := 0) (p := ⟨#[]⟩) g1 g2 (by omega) (by omega) (by decide)
  have hw3 : ∀ (xs : List ByteArray) (q : Int) (T : ByteArray) (f : Flt), (wrL xs q T f).2 = 0 ∧ f.kind ≠ 2 ∨ (wrL xs q T f).2 = 8 ∧ f.kind ≠ 2 ∨ (wrL xs q T f).2 = 9 ∧ f.kind = 2 := by
    intro xs q T f
    unfold wrL
    by_cases k1 : f.kind = 1
    · rw [if_pos k1]; exact .inr (.inl ⟨rfl, by omega⟩)
    · rw [if_neg k1]
      by_cases k2 : f.kind = 2
      · rw [if_pos k2]; exact .inr (.inr ⟨rfl, k2⟩)
      · rw [if_neg k2]; exact .inl ⟨rfl, k2⟩
  induction d with
  | zero =>
    intro k i xs h hk hlog hA
    obtain ⟨k, rfl⟩ : ∃ m, k = m + 1 + 1 + 1 := ⟨k - 3, by omega⟩
    obtain rfl : i = l.length := by omega
    have hn := logB_nums hlog
    rw [hj, if_pos (by omega)]
    simp only [foghornref04_Turn.j1]
    rw [hs0.1, Option.bind_some, if_neg (by omega), List.drop_length, tmod2 (by omega)]
    have hT : turnW g xs l.length [] ((fs.drop l.length).map toFlt) = wrL xs (g % 2) (sealT g 0 ⟨#[]⟩) (((fs.drop l.length).map toFlt).headD fz) := by unfold turnW; rw [hs0.2.1]
    rw [hT]
    have hf := hflt l.length
    obtain ⟨f, hfe⟩ : ∃ f, f = ((fs.drop l.length).map toFlt).headD fz := ⟨_, rfl⟩
    rw [← hfe] at hf ⊢
    have hw := rwr_f (s := ⟨xs, gen, used, g, false⟩) hlog (q := g % 2) (by omega) (show g % 2 < (xs.length : Int) by omega) hs0.2.2 hf (k := k + 1) (by omega)
    simp only at hw
    rw [hw, Option.bind_some]
    simp only
    rcases hw3 xs (g % 2) (sealT g 0 ⟨#[]⟩) f with ⟨e, e2⟩ | ⟨e, e2⟩ | ⟨e, e2⟩
    · rw [e, if_pos rfl, if_pos rfl, if_pos rfl, if_neg e2, w64s (by omega), hj, if_neg (by omega)]
      rfl
    · simp [e, e2]
    · simp [e, e2]
  | succ d ih =>
    intro k i xs h hk hlog hA
    obtain ⟨k, rfl⟩ : ∃ m, k = m + 1 + 1 := ⟨k - 2, by omega⟩
    have hi : i < l.length := by omega
    have hn := logB_nums hlog
    have hpl := placeD_in hlog (g := g) (i := i) (by omega) (by omega)
    obtain ⟨s1, s2, s3⟩ := rseal_f (g := g) (no := (i : Int) + 1) (p := l[i]) g1 g2 (by omega) (by omega) (hl _ (List.getElem_mem _))
    rw [hj, if_pos (by omega)]
    simp only [foghornref04_Turn.j1]
    rw [hs0.1, Option.bind_some, if_pos (by omega), rplace_f (by omega) (by omega) (by omega) (by omega), Option.bind_some, if_pos (by omega), rd_at hi, w64s (by omega), show (((i + 1 : Nat) : Int)) = (i : Int) + 1 by omega, s1, Option.bind_some, drop_cons hi]
    have hf := hflt i
    have htl : ((fs.drop i).map toFlt).tail = (fs.drop (i + 1)).map toFlt := by rw [← List.map_tail, List.tail_drop]
    have hw := rwr_f (s := ⟨xs, gen, used, g, false⟩) hlog (q := placeD xs g i) (by omega) hpl.2 s3 hf (k := k) (by omega)
    simp only at hw
    rw [hw, Option.bind_some]
    simp only
    obtain ⟨w1, w2⟩ := wrL_log hlog (q := placeD xs g i) (by omega) hpl.2 s3 hf
    obtain ⟨f, hfe⟩ : ∃ f, f = ((fs.drop i).map toFlt).headD fz := ⟨_, rfl⟩
    rw [← hfe] at w1 w2 ⊢
    rcases hw3 xs (placeD xs g i) (sealT g ((i : Int) + 1) l[i]) f with ⟨e, e2⟩ | ⟨e, e2⟩ | ⟨e, e2⟩
    · rw [turnW_go' (by rw [s2, ← hfe]; exact e), s2, ← hfe, htl, e, if_pos rfl, if_neg e2]
      exact (ih k (i + 1) (wrL xs (placeD xs g i) (sealT g ((i : Int) + 1) l[i]) f).1 (by omega) (by omega) w1 (by rw [areaD_len w2]; exact hA))
    · rw [turnW_stop' (by rw [s2, ← hfe, e]; decide), s2, ← hfe]
      simp [e, e2]
    · rw [turnW_stop' (by rw [s2, ← hfe, e]; decide), s2, ← hfe]
      simp [e, e2]
theorem turnS_valid (s : Sto) {l : List ByteArray} {fs : List Flt} : turnS s l fs = if s.okB = false ∨ fs.all fltB = false then (Sto.zero, 1) else if (l.all fun p => decide (p.size ≤ 96)) = false then (Sto.zero, 2) else if s.down = true then (Sto.zero, 9) else if areaD s.xs < l.length ∨ 250 < nextG s then (Sto.zero, 5)
    else (⟨(turnW (nextG s) s.xs 0 l fs).1, if (turnW (nextG s) s.xs 0 l fs).2 = 0 then nextG s else s.gen, if (turnW (nextG s) s.xs 0 l fs).2 = 0 then l.length else s.used, nextG s, decide ((turnW (nextG s) s.xs 0 l fs).2 = 9)⟩, (turnW (nextG s) s.xs 0 l fs).2) := by
  have h1 : (fs.any fun f => !fltB f) = !(fs.all fltB) := by
    rw [List.not_all_eq_any_not]
  have h2 : (l.any fun p => decide (96 < p.size)) = !(l.all fun p => decide (p.size ≤ 96)) := by
    rw [List.not_all_eq_any_not]
    congr 1
    funext p
    rw [Bool.eq_iff_iff]
    simp
  unfold turnS mayS
  rw [h1, h2]
  cases s.okB <;> cases fs.all fltB <;> cases (l.all fun p => decide (p.size ≤ 96)) <;> cases s.down <;> simp
theorem rturn_f {s : Sto} (ho : s.okB = true) (hd : s.down = false) {l : List ByteArray} (hl : ∀ p ∈ l, p.size ≤ 96) (hA : (l.length : Int) ≤ areaD s.xs) (hG : nextG s ≤ 250) {fs : List SF} (hfs : ∀ x ∈ fs, fltB (toFlt x) = true) (hfn : fs.length ≤ 1000000) {k : Nat} (hk : 300 < k) :
    foghornref04_Turn.f k s.xs s.gen s.used s.top s.down l fs = stoOut (⟨(turnW (nextG s) s.xs 0 l (fs.map toFlt)).1, if (turnW (nextG s) s.xs 0 l (fs.map toFlt)).2 = 0 then nextG s else s.gen, if (turnW (nextG s) s.xs 0 l (fs.map toFlt)).2 = 0 then l.length else s.used, nextG s, decide ((turnW (nextG s) s.xs 0 l (fs.map toFlt)).2 = 9)⟩, (turnW (nextG s) s.xs 0 l (fs.map toFlt)).2) := by
  obtain ⟨hlog, g1, g2, u0, u1, t1, t2⟩ := okB_all ho
  have hn := logB_nums hlog
  have hng := nextG_facts s
  unfold foghornref04_Turn.f
  rw [rnext_f s (by omega) (by omega) (by omega), Option.bind_some, hd]
  have := rturn_l (g := nextG s) (gen := s.gen) (used := s.used) (by omega) hG l hl (by omega) fs hfs hfn l.length k 0 s.xs (by omega) (by omega) hlog hA
  rw [List.drop_zero, List.drop_zero] at this
  exact this
end Go.Proofs.YtopaddpclipnjaaQ.P
namespace Go.Proofs.Ytopaddpclipnjaa
open Go.RowKit Go.ChangeShapes Go.WideShapes Go.ChangeAt Go.Proofs.YtopaddpclipnjaaW.PrintWords
def Opens (P : Program) (W : World) (t : TypeId) {α : Type} (d : Kd α) (Q : α → Prop) : Prop :=
  ∀ {H : Type} (enc : TypeId × Value → H) (base : Nat) (spare : Nat → Bool) (held : Bool) (fuel : Nat) (cs : List Value) (y : DataW H × List MemPlace), DataW.trod enc P W base spare held fuel t cs = some y → cs.length = d.sz → ∃ x, d.K W x cs ∧ Q x
def OpensL (P : Program) (W : World) (fs : List Field) (o : Nat) {α : Type} (d : Kd α) (Q : α → Prop) : Prop :=
  ∀ {H : Type} (enc : TypeId × Value → H) (base : Nat) (spare : Nat → Bool) (held : Bool) (cs : List Value), (∀ (j : Nat) (f : Field), fs[j]? = some f → ∃ fuel y, DataW.trod enc P W base spare held fuel f.type ((cs.drop (f.offset - o)).take (P.cellsOf f.type)) = some y) → cs.length = d.sz → ∃ x, d.K W x cs ∧ Q x
section
variable {P : Program} {W : World} {t e : TypeId} {α β : Type} {d : Kd α} {Q : α → Prop}
theorem opens_int {k : IntKind} (ht : P.underlying t = some (.int k)) : Opens P W t (Kd.int k) (fun n => (Lit.int k n).wf = true) := by
  intro H enc base spare held fuel cs y h _
  obtain ⟨n, rfl, _, hw⟩ := DataW.trod_int ht h
  exact ⟨n, rfl, hw⟩
theorem opens_bool (ht : P.underlying t = some .bool) : Opens P W t Kd.bool (fun _ => True) := by
  intro H enc base spare held fuel cs y h _
  obtain ⟨n, rfl, _⟩ := DataW.trod_bool ht h
  exact ⟨n, rfl, trivial⟩
theorem opens_string (ht : P.underlying t = some .string) : Opens P W t Kd.string (fun s => s.size ≤ maxLen) := by
  intro H enc base spare held fuel cs y h _
  obtain ⟨n, rfl, _, hw⟩ := DataW.trod_string ht h
  exact ⟨n, rfl, hw⟩
theorem opens_C (hc : P.cellsOf e = d.sz) (h0 : 0 < d.sz) (h : Opens P W e d Q) {H : Type} {enc : TypeId × Value → H} {base : Nat} {spare : Nat → Bool} {held : Bool} {p : List MemPlace} {dd : DataW H} (ht : P.underlying t = some (.slice e)) {v : Value} (ht2 : DataW.Trod enc P W base spare held t v dd p) (hv : ∃ a l c, v = .slice a l c) :
    ∃ (xs : List α) (A : Option Addr) (c : Nat), v = .slice A xs.length c ∧ xs.length ≤ c ∧ d.C W A xs.length xs ∧ ∀ x ∈ xs, Q x := by
  obtain ⟨n, cells, hS, hel⟩ := sl_of_trod ht hc h0 ht2 hv
  have hx : ∀ i, i < n → ∃ x, d.K W x ((cells.drop (i * d.sz)).take d.sz) ∧ Q x := by
    intro i hi
    obtain ⟨f, y, hy⟩ := hel i hi
    refine h enc base spare held f _ y hy ?_
    have hle : i * d.sz + d.sz ≤ n * d.sz := by rw [← Nat.succ_mul]; exact Nat.mul_le_mul_right _ hi
    rw [List.length_take, List.length_drop, hS.1]
    omega
  have hxs : ∀ m, m ≤ n → ∃ xs : List α, xs.length = m ∧ ∀ i x, xs[i]? = some x → d.K W x ((cells.drop (i * d.sz)).take d.sz) ∧ Q x := by
    intro m
    induction m with
    | zero => exact fun _ => ⟨[], rfl, fun i x hx => by simp at hx⟩
    | succ m ih =>
      intro hm
      obtain ⟨xs, hl, hq⟩ := ih (by omega)
      obtain ⟨x, hk, hqx⟩ := hx m (by omega)
      refine ⟨xs ++ [x], by simp [hl], fun i y hy => ?_⟩
      rcases Nat.lt_or_ge i xs.length with hi | hi
      · rw [List.getElem?_append_left hi] at hy
        exact hq i y hy
      · rw [List.getElem?_append_right hi] at hy
        obtain ⟨h1, h2⟩ := List.getElem?_eq_some_iff.1 hy
        have hi2 : i = m := by simp at h1; omega
        subst hi2
        simp at h2
        subst h2
        exact ⟨hk, hqx⟩
  obtain ⟨xs, hl, hq⟩ := hxs n (Nat.le_refl _)
  obtain ⟨a, c, hv2, hnc, hnm⟩ := hS.form
  subst hv2
  subst hl
  refine ⟨xs, a, c, rfl, hnc, ⟨rfl, by unfold maxLen at hnm; omega, fun hp => ?_⟩, fun x hx => ?_⟩
  · obtain ⟨b, o, rfl, _, hcell⟩ := hS.at hp
    refine ⟨_, rfl, fun j p hj => ⟨_, ?_, (hq j p hj).1, fun i u hu => ?_⟩⟩
    · exact d.K_len (hq j p hj).1
    · rw [List.getElem?_take] at hu
      split at hu
      · rw [List.getElem?_drop] at hu
        rw [add_off]
        exact hcell _ _ hu
      · cases hu
  · obtain ⟨i, hi, rfl⟩ := List.mem_iff_getElem.1 hx
    exact (hq i _ (List.getElem?_eq_getElem hi)).2
theorem opens_slice (ht : P.underlying t = some (.slice e)) (hc : P.cellsOf e = d.sz) (h0 : 0 < d.sz) (h : Opens P W e d Q) : Opens P W t (Kd.slice e d) (fun xs => ∀ x ∈ xs, Q x) := by
  intro H enc base spare held fuel cs y hy hl
  obtain ⟨u, rfl⟩ : ∃ u, cs = [u] := by
    match cs, hl with
    | [u], _ => exact ⟨u, rfl⟩
  obtain ⟨hv, h2⟩ := slice_of_trod ht hy
  obtain ⟨xs, A, c, rfl, h3, h4, h5⟩ := opens_C hc h0 h ht h2 hv
  exact ⟨xs, ⟨A, c, rfl, h3, h4⟩, h5⟩
theorem opensL_one {f : Field} (h : Opens P W f.type d Q) (hc : P.cellsOf f.type = d.sz) : OpensL P W [f] f.offset d Q := by
  intro H enc base spare held cs hf hl
  obtain ⟨fuel, y, hy⟩ := hf 0 f rfl
  rw [Nat.sub_self, List.drop_zero, hc, List.take_of_length_le (by omega)] at hy
  exact h enc base spare held fuel cs y hy hl
theorem opensL_cons {f : Field} {fs : List Field} {b : Kd β} {Qb : β → Prop} (h : Opens P W f.type d Q) (hc : P.cellsOf f.type = d.sz) (hs : OpensL P W fs (f.offset + d.sz) b Qb) (ho : (fs.all fun g => decide (f.offset + d.sz ≤ g.offset)) = true) :
    OpensL P W (f :: fs) f.offset (Kd.pair d b) (fun x => Q x.1 ∧ Qb x.2) := by
  intro H enc base spare held cs hf hl
  have hl' : cs.length = d.sz + b.sz := hl
  obtain ⟨fuel, y, hy⟩ := hf 0 f rfl
  rw [Nat.sub_self, List.drop_zero, hc] at hy
  obtain ⟨x, hk, hq⟩ := h enc base spare held fuel _ y hy (by rw [List.length_take]; omega)
  obtain ⟨z, hkz, hqz⟩ := hs enc base spare held (cs.drop d.sz) (fun j g hg => by
    obtain ⟨fuel, y, hy⟩ := hf (j + 1) g (by simpa using hg)
    have hog : f.offset + d.sz ≤ g.offset := by simpa using List.all_eq_true.1 ho g (List.mem_of_getElem? hg)
    refine ⟨fuel, y, ?_⟩
    rw [List.drop_drop, show d.sz + (g.offset - (f.offset + d.sz)) = g.offset - f.offset by omega]
    exact hy) (by rw [List.length_drop]; omega)
  exact ⟨(x, z), ⟨_, _, (List.take_append_drop d.sz cs).symm, hk, hkz⟩, hq, hqz⟩
theorem opens_struct {fs : Array Field} (ht : P.underlying t = some (.struct fs)) (h : OpensL P W fs.toList 0 d Q) : Opens P W t d Q := by
  intro H enc base spare held fuel cs y hy hl
  obtain ⟨xs, n, _, _, _, hlx, hx⟩ := DataW.trod_struct ht hy
  refine h enc base spare held cs (fun j f hf => ?_) hl
  have hf' : fs[j]? = some f := by simpa using hf
  have h1 := hx j f hf'
  have hj : j < xs.length := by rw [hlx]; exact (Array.getElem?_eq_some_iff.1 hf').1
  rw [List.getElem?_eq_getElem hj] at h1
  exact ⟨n, _, h1⟩
theorem opens_iso {f : β → α} {g : α → β} (hfg : ∀ x, f (g x) = x) (h : Opens P W t d Q) : Opens P W t (Kd.iso d f) (fun y => Q (f y)) := by
  intro H enc base spare held fuel cs y hy hl
  obtain ⟨x, hk, hq⟩ := h enc base spare held fuel cs y hy hl
  exact ⟨g x, (by show d.K W (f (g x)) cs; rw [hfg]; exact hk), (by show Q (f (g x)); rw [hfg]; exact hq)⟩
theorem Opens.imp {Q' : α → Prop} (h : Opens P W t d Q) (hq : ∀ x, Q x → Q' x) : Opens P W t d Q' := by
  intro H enc base spare held fuel cs y hy hl
  obtain ⟨x, hk, hx⟩ := h enc base spare held fuel cs y hy hl
  exact ⟨x, hk, hq x hx⟩
theorem arg_slice (hc : P.cellsOf e = d.sz) (h0 : 0 < d.sz) (h : Opens P W e d Q) {H : Type} {enc : TypeId × Value → H} {r : Reach} {base bb : Nat} {spare : Nat → Bool} {held : Bool} {p : List MemPlace} {dd : DataW H} (ht : P.underlying t = some (.slice e)) {v : Value} (hv : Value.okWide P W r bb t v) (h2 : DataW.Trod enc P W base spare held t v dd p) :
    ∃ xs : List α, (∃ (A : Option Addr) (c : Nat), v = .slice A xs.length c ∧ xs.length ≤ c ∧ d.C W A xs.length xs) ∧ ∀ x ∈ xs, Q x := by
  obtain ⟨xs, A, c, h3, h4, h5, h6⟩ := opens_C hc h0 h ht h2 (okWide_slice ht hv)
  exact ⟨xs, ⟨A, c, h3, h4, h5⟩, h6⟩
theorem arg_struct (h : Opens P W t d Q) {fs : Array Field} (hc : P.cellsOf t = d.sz) {H : Type} {enc : TypeId × Value → H} {r : Reach} {base bb : Nat} {spare : Nat → Bool} {held : Bool} {p : List MemPlace} {dd : DataW H} (ht : P.underlying t = some (.struct fs)) {v : Value} (hv : Value.okWide P W r bb t v) (h2 : DataW.Trod enc P W base spare held t v dd p) :
    ∃ x : α, (∃ cs : List Value, v = .agg cs.toArray ∧ d.K W x cs) ∧ Q x := by
  obtain ⟨cs, rfl, hsz⟩ := okWide_struct ht hv
  obtain ⟨fuel, hf⟩ := h2
  obtain ⟨x, hk, hq⟩ := h enc base spare held fuel cs.toList _ hf (by simpa [hc] using hsz)
  exact ⟨x, ⟨cs.toList, by simp, hk⟩, hq⟩
end
end Go.Proofs.Ytopaddpclipnjaa
namespace Go.Proofs.YtopaddpclipnjaaQ.P
open Go.RowKit Go.ChangeShapes Go.WideShapes Go.ChangeAt Go.Proofs.YtopaddpclipnjaaW.PrintWords Go.Proofs.Ytopaddpclipnjaa
theorem anyO4 {P : Program} {W : World} {t : TypeId} {α : Type} {d : Kd α} {Q : α → Prop} (h : Opens P W t d Q) : Opens P W t d (fun _ => True) := h.imp fun _ _ => trivial
theorem opensI4 (W : World) : Opens Try.prog W 3 (Kd.int .i64) (fun _ => True) := anyO4 (opens_int Try.underlying3)
theorem opensB4 (W : World) : Opens Try.prog W 4 Kd.bool (fun _ => True) := anyO4 (opens_bool Try.underlying4)
theorem opensS4 (W : World) : Opens Try.prog W 9 Kd.string (fun _ => True) := anyO4 (opens_string Try.underlying9)
theorem opensSs4 (W : World) : Opens Try.prog W 22 (Kd.slice 9 Kd.string) (fun _ => True) := anyO4 (opens_slice Try.underlying22 (by kernel_rfl) (by decide) (opensS4 W))
theorem opensDsk4 (W : World) : Opens Try.prog W 24 (Kd.slice 9 Kd.string) (fun _ => True) := opens_struct Try.underlying24 (opensL_one (opensSs4 W) (by kernel_rfl))
theorem opensSto4 (W : World) : Opens Try.prog W 26 (Kd.pair (Kd.slice 9 Kd.string) (Kd.pair (Kd.int .i64) (Kd.pair (Kd.int .i64) (Kd.pair (Kd.int .i64) Kd.bool)))) (fun _ => True) :=
  anyO4 (opens_struct Try.underlying26 (opensL_cons (opensDsk4 W) (by kernel_rfl) (opensL_cons (opensI4 W) (by kernel_rfl) (opensL_cons (opensI4 W) (by kernel_rfl) (opensL_cons (opensI4 W) (by kernel_rfl) (opensL_one (opensB4 W) (by kernel_rfl)) (by rfl)) (by rfl)) (by rfl)) (by rfl)))
theorem opensFlt4 (W : World) : Opens Try.prog W 45 k45 (fun _ => True) :=
  anyO4 (opens_iso (g := fun x => ⟨x.1, x.2⟩) (fun _ => rfl) (opens_struct Try.underlying45 (opensL_cons (opensI4 W) (by kernel_rfl) (opensL_one (opensI4 W) (by kernel_rfl)) (by rfl))))
def StoR (v : Value) (W : World) (s : Sto) : Prop := ∃ (A : Option Addr) (c : Nat), v = .agg #[.slice A s.xs.length c, .int .i64 s.gen, .int .i64 s.used, .int .i64 s.top, .bool s.down] ∧ Kd.C Kd.string W A s.xs.length s.xs ∧ s.xs.length ≤ c
def StrR (v : Value) (W : World) (xs : List ByteArray) : Prop := ∃ (A : Option Addr) (c : Nat), v = .slice A xs.length c ∧ Kd.C Kd.string W A xs.length xs ∧ xs.length ≤ c
def FltsR (v : Value) (W : World) (xs : List S45) : Prop := ∃ (A : Option Addr) (c : Nat), v = .slice A xs.length c ∧ Kd.C k45 W A xs.length xs ∧ xs.length ≤ c
section
variable {W : World} {H : Type} {enc : TypeId × Value → H} {r : Reach} {base bb : Nat} {spare : Nat → Bool} {held : Bool} {p : List MemPlace} {dd : DataW H} {v : Value}
set_option maxRecDepth 100000 in
theorem argSto (hv : Value.okWide Try.prog W r bb 26 v) (h2 : DataW.Trod enc Try.prog W base spare held 26 v dd p) : ∃ s : Sto, StoR v W s := by
  obtain ⟨⟨xs, a1, a2, a3, a4⟩, ⟨cs, rfl, hk⟩, _⟩ := arg_struct (opensSto4 W) (by kernel_rfl) Try.underlying26 hv h2
  obtain ⟨_, _, rfl, ⟨A, c, rfl, h1, k1⟩, _, _, rfl, rfl, _, _, rfl, rfl, _, _, rfl, rfl, rfl⟩ := hk
  exact ⟨⟨xs, a1, a2, a3, a4⟩, A, c, rfl, k1, h1⟩
set_option maxRecDepth 100000 in
theorem argStrs (hv : Value.okWide Try.prog W r bb 22 v) (h2 : DataW.Trod enc Try.prog W base spare held 22 v dd p) : ∃ xs : List ByteArray, StrR v W xs := by
  obtain ⟨xs, ⟨A, c, h1, h2, h3⟩, _⟩ := arg_slice (by kernel_rfl) (by decide) (opensS4 W) Try.underlying22 hv h2
  exact ⟨xs, A, c, h1, h3, h2⟩
set_option maxRecDepth 100000 in
theorem argFlts (hv : Value.okWide Try.prog W r bb 47 v) (h2 : DataW.Trod enc Try.prog W base spare held 47 v dd p) : ∃ xs : List S45, FltsR v W xs := by
  obtain ⟨xs, ⟨A, c, h1, h2, h3⟩, _⟩ := arg_slice (by kernel_rfl) (by decide) (opensFlt4 W) Try.underlying47 hv h2
  exact ⟨xs, A, c, h1, h3, h2⟩
set_option maxRecDepth 100000 in
theorem argFlt (hv : Value.okWide Try.prog W r bb 45 v) (h2 : DataW.Trod enc Try.prog W base spare held 45 v dd p) : ∃ f : Flt, v = .agg #[.int .i64 f.kind, .int .i64 f.k] := by
  obtain ⟨⟨a, b⟩, ⟨cs, rfl, hk⟩, _⟩ := arg_struct (opensFlt4 W) (by kernel_rfl) Try.underlying45 hv h2
  obtain rfl := k45_open hk
  exact ⟨⟨a, b⟩, rfl⟩
end
end Go.Proofs.YtopaddpclipnjaaQ.P
namespace Go.Proofs.YtopaddpclipnjaaQ.P
open Go.RowKit Go.Proofs.YtopaddpclipnjaaW.PrintWords Go.Proofs.YtopaddpclipnjaaW.PrintMore Go.Proofs.Ytopaddpclipnjaa
def whyA (s : Sto) (p : ByteArray) (f : Flt) : Int := if s.okB = false ∨ fltB f = false then 1 else if 96 < p.size then 2 else if s.down = true then 9 else if s.used = areaD s.xs then 5 else 0
theorem appendS_why (s : Sto) (p : ByteArray) (f : Flt) : appendS s p f = if whyA s p f = 0 then appS s p f else (Sto.zero, whyA s p f) := by
  unfold appendS mayS whyA
  by_cases hu : s.used = areaD s.xs <;> by_cases hp : 96 < p.size <;> cases s.okB <;> cases hf : fltB f <;> cases s.down <;> simp [hu, hp, hf]
def whyT (s : Sto) (l : List ByteArray) (fs : List Flt) : Int := if s.okB = false ∨ fs.all fltB = false then 1 else if (l.all fun p => decide (p.size ≤ 96)) = false then 2 else if s.down = true then 9 else if areaD s.xs < l.length ∨ 250 < nextG s then 5 else 0
theorem turnS_why (s : Sto) (l : List ByteArray) (fs : List Flt) : whyT s l fs ≠ 0 → turnS s l fs = (Sto.zero, whyT s l fs) := by
  rw [turnS_valid]
  unfold whyT
  by_cases h1 : s.okB = false ∨ fs.all fltB = false
  · rw [if_pos h1, if_pos h1]; intro _; rfl
  · rw [if_neg h1, if_neg h1]
    by_cases h2 : (l.all fun p => decide (p.size ≤ 96)) = false
    · rw [if_pos h2, if_pos h2]; simp
    · rw [if_neg h2, if_neg h2]
      by_cases h3 : s.down = true
      · rw [if_pos h3, if_pos h3]; simp
      · rw [if_neg h3, if_neg h3]
        by_cases h4 : areaD s.xs < l.length ∨ 250 < nextG s
        · rw [if_pos h4, if_pos h4]; simp
        · rw [if_neg h4]; simp
theorem whyA_ok {s : Sto} {p : ByteArray} {f : Flt} (h : whyA s p f = 0) : s.okB = true ∧ fltB f = true ∧ p.size ≤ 96 ∧ s.down = false ∧ s.used ≠ areaD s.xs := by
  unfold whyA at h
  split at h
  · omega
  · rename_i h1
    split at h
    · omega
    · split at h
      · omega
      · rename_i h3
        split at h
        · omega
        · simp only [not_or, Bool.not_eq_false] at h1
          exact ⟨h1.1, h1.2, by omega, by simpa using h3, by assumption⟩
theorem whyT_ok {s : Sto} {l : List ByteArray} {fs : List Flt} (h : whyT s l fs = 0) : s.okB = true ∧ fs.all fltB = true ∧ (∀ p ∈ l, p.size ≤ 96) ∧ s.down = false ∧ (l.length : Int) ≤ areaD s.xs ∧ nextG s ≤ 250 := by
  unfold whyT at h
  split at h
  · omega
  · rename_i h1
    split at h
    · omega
    · rename_i h2
      split at h
      · omega
      · rename_i h3
        split at h
        · omega
        · rename_i h4
          simp only [not_or, Bool.not_eq_false] at h1 h2 h4
          exact ⟨h1.1, h1.2, fun p hp => by simpa using List.all_eq_true.1 h2 p hp, by simpa using h3, by omega, by omega⟩
theorem turnS_len (s : Sto) (l : List ByteArray) (fs : List Flt) : (turnS s l fs).1.xs.length ≤ s.xs.length := by
  have hw : ∀ (l : List ByteArray) (xs : List ByteArray) (i : Nat) (fs : List Flt), (turnW (nextG s) xs i l fs).1.length ≤ xs.length := by
    intro l
    induction l with
    | nil => intro xs i fs; exact wrL_len _ _ _ _
    | cons p l ih =>
      intro xs i fs
      unfold turnW
      split
      · exact Nat.le_trans (ih _ _ _) (wrL_len _ _ _ _)
      · exact wrL_len _ _ _ _
  unfold turnS
  split
  · split
    · exact Nat.zero_le _
    · exact hw _ _ _ _
  · exact Nat.zero_le _
set_option maxHeartbeats 1000000 in
theorem writes_pure (l0_0 : List ByteArray) (a0_1 a0_2 a0_3 : Int) (a0_4 : Bool) (a1 : ByteArray) (a2_0 a2_1 : Int) (l3 : List ByteArray) (l4 : List SF) : foghornlaw04_StoreWrites.f 500 l0_0 a0_1 a0_2 a0_3 a0_4 a1 a2_0 a2_1 l3 l4 = some true := by
  obtain ⟨s, hs⟩ : ∃ s : Sto, s = ⟨cutD l0_0, a0_1, a0_2, a0_3, a0_4⟩ := ⟨_, rfl⟩
  obtain ⟨p, hp⟩ : ∃ p, p = cutB 130 a1 := ⟨_, rfl⟩
  obtain ⟨l, hl⟩ : ∃ l, l = (l3.take 70).map (cutB 130) := ⟨_, rfl⟩
  obtain ⟨fs, hfs⟩ : ∃ fs, fs = l4.take 70 := ⟨_, rfl⟩
  obtain ⟨f, hf⟩ : ∃ f : Flt, f = ⟨a2_0, a2_1⟩ := ⟨_, rfl⟩
  have hsl : s.xs.length ≤ 132 := by rw [hs]; exact cutD_len _
  have hll : l.length ≤ 70 := by rw [hl, List.length_map]; exact List.length_take_le _ _
  have hfl : fs.length ≤ 70 := by rw [hfs]; exact List.length_take_le _ _
  have e1 := mn_eq (a1.size : Int) 130
  have e2 := mn_eq (l4.length : Int) 70
  have b1 : cutD l0_0 = s.xs := by rw [hs]
  have b2 : a0_1 = s.gen := by rw [hs]
  have b3 : a0_2 = s.used := by rw [hs]
  have b4 : a0_3 = s.top := by rw [hs]
  have b5 : a0_4 = s.down := by rw [hs]
  have b6 : a2_0 = f.kind := by rw [hf]
  have b7 : a2_1 = f.k := by rw [hf]
  unfold foghornlaw04_StoreWrites.f
  rw [cut_f ⟨l0_0, a0_1, a0_2, a0_3, a0_4⟩ (by omega), Option.bind_some]
  simp only
  rw [if_pos (by omega), if_pos (by omega), show foghornlaw04_few.f 500 l3 70 = _ from few_f l3 70 (by omega) (by omega), Option.bind_some, if_pos (by omega), if_pos (by omega), Option.bind_some, take_mn 70 70 _ rfl, cutB_mn 130 130 _ rfl, ← hp, ← hl, ← hfs, b1, b2, b3, b4, b5, b6, b7]
  clear hs hp hl hfs hf e1 e2 b1 b2 b3 b4 b5 b6 b7
  rw [app_f s p f, show store_Turn.f s.xs s.gen s.used s.top s.down l fs = stoOut (turnS s l (fs.map toFlt)) from rfl]
  unfold stoOut
  rw [Option.bind_some, Option.bind_some, alive_f (by omega), Option.bind_some, if_pos rfl, rright_f s (by omega) (by omega), Option.bind_some]
  simp only
  have hfm : (fs.all fun x => fltB (toFlt x)) = (fs.map toFlt).all fltB := by rw [List.all_map]; rfl
  have J4 : ∀ k : Nat, 400 < k → foghornlaw04_StoreWrites.j4 k l fs (turnS s l (fs.map toFlt)).2 (whyT s l (fs.map toFlt)) s.xs s.gen s.used s.top s.down (turnS s l (fs.map toFlt)).1.xs (turnS s l (fs.map toFlt)).1.gen (turnS s l (fs.map toFlt)).1.used (turnS s l (fs.map toFlt)).1.top (turnS s l (fs.map toFlt)).1.down 0 0 0 false = some true := by
    intro k hk
    obtain ⟨k, rfl⟩ : ∃ m, k = m + 1 := ⟨k - 1, by omega⟩
    simp only [foghornlaw04_StoreWrites.j4]
    have htl := turnS_len s l (fs.map toFlt)
    by_cases h0 : whyT s l (fs.map toFlt) = 0
    · obtain ⟨o1, o2, o3, o4, o5, o6⟩ := whyT_ok h0
      have hr := rturn_f o1 o4 o3 o5 o6 (fs := fs) (fun x hx => List.all_eq_true.1 (hfm ▸ o2) x hx) (by omega) (k := k) (by omega)
      have ht : turnS s l (fs.map toFlt) = (⟨(turnW (nextG s) s.xs 0 l (fs.map toFlt)).1, if (turnW (nextG s) s.xs 0 l (fs.map toFlt)).2 = 0 then nextG s else s.gen, if (turnW (nextG s) s.xs 0 l (fs.map toFlt)).2 = 0 then l.length else s.used, nextG s, decide ((turnW (nextG s) s.xs 0 l (fs.map toFlt)).2 = 9)⟩, (turnW (nextG s) s.xs 0 l (fs.map toFlt)).2) := by
        rw [turnS_valid, if_neg (by rw [o1, o2]; simp), if_neg (by simpa using o3), if_neg (by rw [o4]; decide), if_neg (by omega)]
      rw [← ht] at hr
      rw [if_pos h0, hr]
      unfold stoOut
      rw [Option.bind_some]
      simp only
      rw [if_pos trivial, ssame_f (turnS s l (fs.map toFlt)).1 (turnS s l (fs.map toFlt)).1 (by omega) (by omega), stoEq_self]
      rfl
    · rw [if_neg h0, turnS_why s l _ h0]
      simp only
      rw [if_pos trivial, same_zero (by omega)]
      rfl
  have J2 : ∀ k : Nat, 402 < k → foghornlaw04_StoreWrites.j2 k l fs (turnS s l (fs.map toFlt)).2 s.xs s.gen s.used s.top s.down (turnS s l (fs.map toFlt)).1.xs (turnS s l (fs.map toFlt)).1.gen (turnS s l (fs.map toFlt)).1.used (turnS s l (fs.map toFlt)).1.top (turnS s l (fs.map toFlt)).1.down 0 0 0 false = some true := by
    intro k hk
    obtain ⟨k, rfl⟩ : ∃ m, k = m + 1 + 1 := ⟨k - 2, by omega⟩
    have j4 := J4 k (by omega)
    simp only [foghornlaw04_StoreWrites.j2]
    rw [rright_f s (by omega) (by omega), Option.bind_some]
    have H : ∀ b : Bool, (b = true ↔ (s.okB = false ∨ (fs.map toFlt).all fltB = false)) → foghornlaw04_StoreWrites.j3 (k + 1) l fs (turnS s l (fs.map toFlt)).2 0 b s.xs s.gen s.used s.top s.down (turnS s l (fs.map toFlt)).1.xs (turnS s l (fs.map toFlt)).1.gen (turnS s l (fs.map toFlt)).1.used (turnS s l (fs.map toFlt)).1.top (turnS s l (fs.map toFlt)).1.down 0 0 0 false = some true := by
      intro b hb
      simp only [foghornlaw04_StoreWrites.j3]
      unfold whyT at j4
      by_cases h1 : s.okB = false ∨ (fs.map toFlt).all fltB = false
      · rw [if_pos (hb.2 h1)]
        rw [if_pos h1] at j4
        exact j4
      · rw [if_neg (fun h => h1 (hb.1 h)), rpays_f l (by omega) (by omega), Option.bind_some]
        rw [if_neg h1] at j4
        by_cases h2 : (l.all fun p => decide (p.size ≤ 96)) = false
        · rw [if_pos h2] at j4
          rw [if_neg (by rw [h2]; decide)]
          exact j4
        · rw [if_neg h2] at j4
          rw [if_pos (by simpa using h2)]
          by_cases h3 : s.down = true
          · rw [if_pos h3] at j4
            rw [if_pos h3]
            exact j4
          · rw [if_neg h3] at j4
            simp only [not_or, Bool.not_eq_false] at h1
            obtain ⟨o1, o2, o3, o4, o5, o6, o7⟩ := okB_all h1.1
            rw [if_neg h3, rarea_f (by omega), Option.bind_some, rnext_f s (by omega) (by omega) (by omega)]
            by_cases h4 : (l.length : Int) > areaD s.xs
            · rw [if_pos (.inl (by omega))] at j4
              rw [if_pos h4]
              exact j4
            · rw [if_neg h4, Option.bind_some]
              by_cases h5 : nextG s > 250
              · rw [if_pos (.inr (by omega))] at j4
                rw [if_pos h5]
                exact j4
              · rw [if_neg (by omega)] at j4
                rw [if_neg h5]
                exact j4
    by_cases ho : s.okB = true
    · rw [if_pos ho, rfaults_f fs (by omega) (by omega), Option.bind_some, hfm]
      refine H _ ?_
      rw [ho]
      simp
    · rw [if_neg ho]
      exact H true (by simp; exact .inl (by simpa using ho))
  have J1 : ∀ k : Nat, 404 < k → foghornlaw04_StoreWrites.j1 k p l fs (appendS s p f).2 (turnS s l (fs.map toFlt)).2 (whyA s p f) s.xs s.gen s.used s.top s.down f.kind f.k (appendS s p f).1.xs (appendS s p f).1.gen (appendS s p f).1.used (appendS s p f).1.top (appendS s p f).1.down (turnS s l (fs.map toFlt)).1.xs (turnS s l (fs.map toFlt)).1.gen (turnS s l (fs.map toFlt)).1.used (turnS s l (fs.map toFlt)).1.top (turnS s l (fs.map toFlt)).1.down 0 0 0 false = some true := by
    intro k hk
    obtain ⟨k, rfl⟩ : ∃ m, k = m + 1 := ⟨k - 1, by omega⟩
    simp only [foghornlaw04_StoreWrites.j1]
    rw [appendS_why]
    by_cases h0 : whyA s p f = 0
    · obtain ⟨o1, o2, o3, o4, o5⟩ := whyA_ok h0
      have hal := appS_len s p f
      rw [if_pos h0, if_pos h0, rappend_f o1 o4 o5 o3 o2 (by omega)]
      unfold stoOut
      rw [Option.bind_some]
      simp only
      rw [if_pos trivial, ssame_f (appS s p f).1 (appS s p f).1 (by omega) (by omega), stoEq_self, Option.bind_some, if_pos rfl]
      exact J2 k (by omega)
    · rw [if_neg h0, if_neg h0]
      simp only
      rw [if_pos trivial, same_zero (by omega), Option.bind_some, if_pos rfl]
      exact J2 k (by omega)
  have J0 : ∀ b : Bool, (b = true ↔ (s.okB = false ∨ fltB f = false)) → foghornlaw04_StoreWrites.j0 500 p l fs (appendS s p f).2 (turnS s l (fs.map toFlt)).2 0 b s.xs s.gen s.used s.top s.down f.kind f.k (appendS s p f).1.xs (appendS s p f).1.gen (appendS s p f).1.used (appendS s p f).1.top (appendS s p f).1.down (turnS s l (fs.map toFlt)).1.xs (turnS s l (fs.map toFlt)).1.gen (turnS s l (fs.map toFlt)).1.used (turnS s l (fs.map toFlt)).1.top (turnS s l (fs.map toFlt)).1.down 0 0 0 false = some true := by
    intro b hb
    have j1 := J1 499 (by omega)
    unfold whyA at j1
    simp only [foghornlaw04_StoreWrites.j0]
    by_cases h1 : s.okB = false ∨ fltB f = false
    · rw [if_pos (hb.2 h1)]
      rw [if_pos h1] at j1
      exact j1
    · rw [if_neg (fun h => h1 (hb.1 h))]
      rw [if_neg h1] at j1
      by_cases h2 : 96 < p.size
      · rw [if_pos h2] at j1
        rw [if_pos (by omega)]
        exact j1
      · rw [if_neg h2] at j1
        rw [if_neg (by omega)]
        by_cases h3 : s.down = true
        · rw [if_pos h3] at j1
          rw [if_pos h3]
          exact j1
        · rw [if_neg h3] at j1
          rw [if_neg h3, rarea_f (by omega), Option.bind_some]
          by_cases h4 : s.used = areaD s.xs
          · rw [if_pos h4] at j1
            rw [if_pos h4]
            exact j1
          · rw [if_neg h4] at j1
            rw [if_neg h4]
            exact j1
  by_cases ho : s.okB = true
  · rw [if_pos ho, rfault_f f, Option.bind_some]
    refine J0 _ ?_
    rw [ho]
    simp
  · rw [if_neg ho]
    exact J0 true (by simp; exact .inl (by simpa using ho))
theorem StoreWrites_walk (v0 : Value) (s : Sto) (p : ByteArray) (v2 : Value) (f : Flt) (v3 : Value) (l : List ByteArray) (v4 : Value) (fs : List SF) (w : World) (h0 : StoR v0 w s) (h1 : p.size ≤ maxLen) (h2 : v2 = .agg #[.int .i64 f.kind, .int .i64 f.k]) (h3 : StrR v3 w l) (h4 : FltsR v4 w fs) :
    Calls Try.prog 5 #[v0, .string p, v2, v3, v4] w fun e w' => e = .returned (.bool true) ∧ Below w.heap.size w w' := by
  obtain ⟨A, c, rfl, k1, k2⟩ := h0
  obtain ⟨B, d, rfl, k3, k4⟩ := h3
  obtain ⟨C, e, rfl, k5, k6⟩ := h4
  subst h2
  exact foghornlaw04_StoreWrites.calls 500 A c s.xs s.gen s.used s.top s.down p f.kind f.k B d l C e fs true w k1 k2 k3 k4 k5 k6 (writes_pure ..)
end Go.Proofs.YtopaddpclipnjaaQ.P
namespace Go.Proofs.Ytopaddpclipnjaa.storeWrites
open Go.ChangeShapes Go.WideShapes Go.ChangeAt Go.RowKit Go.Proofs.YtopaddpclipnjaaQ.P
open Go.ChangeMaps (open_string shut_string)
theorem own : ownKnob Try.prog.godebug = none := by kernel_rfl
theorem laidOut : laidOutB Try.prog = true := by kernel_rfl
set_option maxRecDepth 100000 in
theorem lifted (os : Os) (started : os.Started) (H : Type) (enc : TypeId × Value → H) :
    ReturnsInHanded {} Try.checked os 5 .any (Rows.storeWritesSpec.pre6 enc Try.prog Try.f5 Rows.storeWritesRow.domain false) (Rows.storeWritesSpec.post enc Try.prog Try.f5 false true false false) := by
  refine returnsInHanded_of_change (C := Try.checked) own started (by kernel_rfl) Try.func5
    (ChangeSpec.witness6 (enc := enc) (C := Try.checked) false ⟨#[], #[.agg #[.slice none 0 0, .int .i64 0, .int .i64 0, .int .i64 0, .bool false], .string ByteArray.empty, .agg #[.int .i64 0, .int .i64 0], .slice none 0 0, .slice none 0 0], []⟩ 8 (by kernel_rfl) (by kernel_rfl) (by kernel_rfl) (by kernel_rfl)) ?_
  intro W base args ds gs before hval0 hW hcnd _
  have hval : ∀ (j : Nat) t v, Try.f5.params[j]? = some t → args[j]? = some v → Value.okWide Try.prog W .any base t v := hval0
  have hW' := hW
  obtain ⟨p, q, hA0, hV, rfl, hfz, hnd⟩ := hW
  have hA : DataW.TrodAll enc Try.prog W 0 (fun _ => true) true Try.f5.params.toList args.toList ds p := hA0
  rw [Try.params5] at hA hval
  obtain ⟨v0, vs0, d0, ds0, p0, q0, hargs, rfl, rfl, h0, r0⟩ := trodAll_cons hA
  obtain ⟨v1, vs1, d1, ds1, p1, q1, rfl, rfl, rfl, h1, r1⟩ := trodAll_cons r0
  obtain ⟨v2, vs2, d2, ds2, p2, q2, rfl, rfl, rfl, h2, r2⟩ := trodAll_cons r1
  obtain ⟨v3, vs3, d3, ds3, p3, q3, rfl, rfl, rfl, h3, r3⟩ := trodAll_cons r2
  obtain ⟨v4, vs4, d4, ds4, p4, q4, rfl, rfl, rfl, h4, r4⟩ := trodAll_cons r3
  obtain ⟨rfl, rfl, rfl⟩ := trodAll_nil r4
  obtain rfl : args = #[v0, v1, v2, v3, v4] := by cases args; simp_all
  obtain ⟨rfl, rfl⟩ := trodVars_none hV
  have lt0 : ∀ x ∈ p0, x.block < W.heap.size := by obtain ⟨m, hm⟩ := h0; exact DataW.trod_lt m _ _ _ hm
  have k0 := h0
  have lt1 : ∀ x ∈ p1, x.block < W.heap.size := by obtain ⟨m, hm⟩ := h1; exact DataW.trod_lt m _ _ _ hm
  have k1 := h1
  have lt2 : ∀ x ∈ p2, x.block < W.heap.size := by obtain ⟨m, hm⟩ := h2; exact DataW.trod_lt m _ _ _ hm
  have k2 := h2
  have lt3 : ∀ x ∈ p3, x.block < W.heap.size := by obtain ⟨m, hm⟩ := h3; exact DataW.trod_lt m _ _ _ hm
  have k3 := h3
  have lt4 : ∀ x ∈ p4, x.block < W.heap.size := by obtain ⟨m, hm⟩ := h4; exact DataW.trod_lt m _ _ _ hm
  have k4 := h4
  obtain ⟨a0, w0⟩ := argSto (hval 0 26 v0 rfl rfl) h0
  obtain ⟨a1, rfl, rfl, rfl, w1⟩ := open_string Try.underlying9 (hval 1 9 v1 rfl rfl) h1
  obtain ⟨a2, w2⟩ := argFlt (hval 2 45 v2 rfl rfl) h2
  obtain ⟨a3, w3⟩ := argStrs (hval 3 22 v3 rfl rfl) h3
  obtain ⟨a4, w4⟩ := argFlts (hval 4 47 v4 rfl rfl) h4
  clear hA0 hval0
  refine (StoreWrites_walk v0 a0 a1 v2 a2 v3 a3 v4 a4 W w0 w1 w2 w3 w4).mono fun e W' ⟨he, bel⟩ => ?_
  subst he
  exact ⟨_, rfl, _, _, _, [], _, [], hW', trodAll_mk1 (shut_bool Try.underlying4 _), (trodAll_cons_mk (Below.trod laidOut (by kernel_rfl) (of_decide_eq_true (by kernel_rfl)) k0 bel lt0) (trodAll_cons_mk (Below.trod laidOut (by kernel_rfl) (of_decide_eq_true (by kernel_rfl)) k1 bel lt1) (trodAll_cons_mk (Below.trod laidOut (by kernel_rfl) (of_decide_eq_true (by kernel_rfl)) k2 bel lt2) (trodAll_cons_mk (Below.trod laidOut (by kernel_rfl) (of_decide_eq_true (by kernel_rfl)) k3 bel lt3) (trodAll_cons_mk (Below.trod laidOut (by kernel_rfl) (of_decide_eq_true (by kernel_rfl)) k4 bel lt4) trodAll_mk0))))), rfl, bel.frame _, fun h => by cases h⟩
theorem over : Rows.storeWritesRow.holds Try.pinned (OpenSpec.ofChange Rows.storeWritesSpec) :=
  OpenClaim.holds_of_wide 5 Try.f5 rfl rfl rfl rfl rfl rfl rfl ⟨rfl, rfl, rfl, rfl, rfl⟩ rfl rfl rfl rfl rfl (by kernel_rfl) Try.func5 (by kernel_rfl)
    (of_decide_eq_true (by kernel_rfl)) (by unfold Func.isWrapper; first | (rw [if_pos (by decide +kernel)]; kernel_rfl) | (rw [if_neg (by decide +kernel)]; exact ⟨rfl, rfl⟩))
    (fun os started H enc _ => lifted os started H enc)
end Go.Proofs.Ytopaddpclipnjaa.storeWrites
namespace Go.Proofs.Ytopaddpclipnjaa
theorem storeWrites_holds : Rows.StoreWritesSaid := storeWrites.over
#print axioms storeWrites_holds
end Go.Proofs.Ytopaddpclipnjaa
