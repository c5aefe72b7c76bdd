/- The statement 'StoreTurns': for every input the law returns true, and each argument reads behind the call as it read before. No condition. -/
import Derived.WideShapes
import Derived.Test.YtopaddpclipnjaaRows
import Derived.WalkKit
import Derived.ProofKit
import Derived.OpenShut
import Derived.ShutString
import Derived.Below
import Derived.Carry
import Derived.Test.YtopaddpclipnjaaStoreTurnsz1
import Derived.Test.YtopaddpclipnjaaStoreTurnsz3
import Derived.Test.YtopaddpclipnjaaStoreTurnsz4
set_option linter.unusedVariables false
set_option linter.unusedSimpArgs false
namespace Go.Proofs.Ytopaddpclipnjaa
open Go.RowKit
structure InvF (xs : List ByteArray) (g : Int) (h : List ByteArray) : Prop where
  log : logB xs = true
  g1 : 1 ≤ g
  g2 : g ≤ 250
  len : (h.length : Int) ≤ areaD xs
  head : hdrG (sec xs (g % 2)) (g % 2) = g
  other : hdrG (sec xs (1 - g % 2)) (1 - g % 2) < g
  recs : ∀ (i : Nat) (hi : i < h.length), recB (sec xs (placeD xs g i)) g (i + 1) ∧ openP (sec xs (placeD xs g i)) = h[i]
  next : ∀ i : Nat, h.length ≤ i → (i : Int) < areaD xs → at8 (sec xs (placeD xs g i)) 0 ≠ g
theorem first_rec {x : ByteArray} {g no : Int} (h : at8 x 0 ≠ g) : ¬ recB x g no := by
  rintro ⟨h1, h2, _⟩
  rw [(openG_pos h1).2.2] at h2
  exact h h2
theorem InvF.boot {xs : List ByteArray} {g : Int} {h : List ByteArray} (H : InvF xs g h) : bootS xs = (⟨xs, g, h.length, topF 0 xs, false⟩, h, 0) := by
  have ha := (logB_nums H.log).2.2.2.2.2.2.2
  have hl := H.len
  have hfd : ∀ (d : Nat) (i : Nat), (i : Int) + d = areaD xs → foundD xs g d i = h.drop i := by
    intro d
    induction d with
    | zero =>
      intro i hi
      unfold foundD
      rw [List.drop_of_length_le (by omega)]
    | succ d ih =>
      intro i hi
      unfold foundD
      by_cases h1 : i < h.length
      · obtain ⟨r1, r2⟩ := H.recs i h1
        rw [if_pos r1, r2, ih (i + 1) (by omega)]
        exact (List.drop_eq_getElem_cons h1).symm
      · rw [if_neg (first_rec (H.next i (by omega) (by omega))), List.drop_of_length_le (by omega)]
  have hf : foundA xs g = h := by
    unfold foundA
    rw [hfd _ 0 (by omega), List.drop_zero]
  have hn : newestD xs = g := by
    have h1 := H.head
    have h2 := H.other
    unfold newestD
    rcases par g with e | e <;> rw [e] at h1 h2
    · rw [show (1 : Int) - 0 = 1 by omega] at h2
      omega
    · rw [show (1 : Int) - 1 = 0 by omega] at h2
      omega
  unfold bootS
  rw [hn, hf, if_neg (by rw [H.log]; simp), if_neg (by have := H.g1; omega)]
theorem InvF.append {xs ys : List ByteArray} {g : Int} {h : List ByteArray} (H : InvF xs g h) (hl : (h.length : Int) < areaD xs) {p : ByteArray} {T : ByteArray} (hT : SealT T g (h.length + 1) p) (W : Wrote xs (placeD xs g h.length) T ys) : InvF ys g (h ++ [p]) := by
  have hn := logB_nums H.log
  have hg := H.g1
  have hA : areaD ys = areaD xs := areaD_len W.len
  have hP : ∀ i : Nat, placeD ys g i = placeD xs g i := fun i => placeD_len W.len g i
  have hpl := placeD_in H.log (g := g) (i := h.length) (by omega) hl
  have hfar : ∀ i : Nat, (i : Int) < areaD xs → i ≠ h.length → sec ys (placeD ys g i) = sec xs (placeD xs g i) := by
    intro i hi hne
    have := placeD_in H.log (g := g) (i := i) (by omega) hi
    rw [hP, W.far _ (by omega) (fun e => hne (by have := (placeD_inj H.log (by omega) hi (by omega) hl e).2; omega))]
  refine ⟨W.log, hg, H.g2, by rw [hA]; simp; omega, ?_, ?_, ?_, ?_⟩
  · rw [W.far _ (by omega) (by omega)]
    exact H.head
  · rw [W.far _ (by omega) (by omega)]
    exact H.other
  · intro i hi
    simp only [List.length_append, List.length_singleton] at hi
    by_cases e : i = h.length
    · subst e
      rw [hP, W.here]
      exact ⟨⟨hT.opens, hT.gen, hT.num⟩, by rw [hT.pay]; simp⟩
    · rw [hfar i (by omega) e]
      have := H.recs i (by omega)
      rw [List.getElem_append_left (by omega)]
      exact this
  · intro i hi hia
    simp only [List.length_append, List.length_singleton] at hi
    rw [hA] at hia
    rw [hfar i hia (by omega)]
    exact H.next i (by omega) hia
theorem InvF.more {xs : List ByteArray} {g : Int} {h : List ByteArray} (H : InvF xs g h) (hl : (h.length : Int) < areaD xs) {p : ByteArray} (hp : p.size ≤ 96) : InvF (tearL xs (placeD xs g h.length) (sealS g (h.length + 1) p) 128) g (h ++ [p]) := by
  have hn := logB_nums H.log
  have hpl := placeD_in H.log (g := g) (i := h.length) (by omega) hl
  obtain ⟨hT, hTe⟩ := sealT_is (g := g) (no := (h.length : Int) + 1) (p := p) H.g1 H.g2 (by omega) (by omega) hp
  rw [hTe]
  have W := tear_wrote H.log (q := placeD xs g h.length) (by omega) hpl.2 hT.size (k := 128) (by omega) (by omega)
  rw [show (128 : Int).toNat = 128 from rfl, over_all (sec_size H.log (by omega) hpl.2) hT.size] at W
  exact H.append hl hT W
structure NewF (xs : List ByteArray) (g : Int) (l : List ByteArray) (i : Nat) : Prop where
  log : logB xs = true
  g1 : 1 ≤ g
  g2 : g ≤ 250
  room : (l.length : Int) ≤ areaD xs
  other : hdrG (sec xs (1 - g % 2)) (1 - g % 2) < g
  recs : ∀ (j : Nat) (hj : j < l.length), j < i → recB (sec xs (placeD xs g j)) g (j + 1) ∧ openP (sec xs (placeD xs g j)) = l[j]
  next : ∀ j : Nat, i ≤ j → (j : Int) < areaD xs → at8 (sec xs (placeD xs g j)) 0 ≠ g
theorem turnF {g : Int} {l : List ByteArray} (hs : ∀ p ∈ l, p.size ≤ 96) (d : Nat) : ∀ (xs : List ByteArray) (i : Nat), i + d = l.length → NewF xs g l i → (turnW g xs i (l.drop i) []).2 = 0 ∧ InvF (turnW g xs i (l.drop i) []).1 g l ∧ (turnW g xs i (l.drop i) []).1.length = xs.length := by
  induction d with
  | zero =>
    intro xs i hi N
    obtain rfl : i = l.length := by omega
    have hn := logB_nums N.log
    have g1 := N.g1
    have g2 := N.g2
    obtain ⟨hT, hTe⟩ := sealT_is (g := g) (no := 0) (p := ⟨#[]⟩) (by omega) (by omega) (by omega) (by omega) (by decide)
    have W := tear_wrote N.log (q := g % 2) (by omega) (by omega) hT.size (k := 128) (by omega) (by omega)
    rw [show (128 : Int).toNat = 128 from rfl, over_all (sec_size N.log (by omega) (by omega)) hT.size] at W
    have e : turnW g xs l.length (l.drop l.length) [] = (tearL xs (g % 2) (sealT g 0 ⟨#[]⟩) 128, 0) := by
      rw [List.drop_length]
      unfold turnW wrL
      rw [hTe]
      rfl
    rw [e]
    have hA := areaD_len W.len
    have hfar : ∀ j : Nat, (j : Int) < areaD xs → sec (tearL xs (g % 2) (sealT g 0 ⟨#[]⟩) 128) (placeD (tearL xs (g % 2) (sealT g 0 ⟨#[]⟩) 128) g j) = sec xs (placeD xs g j) := by
      intro j hj
      have := placeD_in N.log (g := g) (i := j) (by omega) hj
      rw [placeD_len W.len, W.far _ (by omega) (by omega)]
    refine ⟨rfl, ⟨W.log, g1, g2, by rw [hA]; exact N.room, ?_, ?_, ?_, ?_⟩, W.len⟩
    · show hdrG (sec (tearL xs (g % 2) (sealT g 0 ⟨#[]⟩) 128) (g % 2)) (g % 2) = g
      rw [W.here]
      unfold hdrG
      rw [if_pos ⟨hT.opens, by rw [hT.gen], hT.num, hT.pay⟩]
      exact hT.gen
    · show hdrG (sec (tearL xs (g % 2) (sealT g 0 ⟨#[]⟩) 128) (1 - g % 2)) (1 - g % 2) < g
      rw [W.far _ (by omega) (by omega)]
      exact N.other
    · intro j hj
      have hr := N.room
      show recB (sec (tearL xs (g % 2) (sealT g 0 ⟨#[]⟩) 128) (placeD (tearL xs (g % 2) (sealT g 0 ⟨#[]⟩) 128) g j)) g (j + 1) ∧ openP (sec (tearL xs (g % 2) (sealT g 0 ⟨#[]⟩) 128) (placeD (tearL xs (g % 2) (sealT g 0 ⟨#[]⟩) 128) g j)) = l[j]
      rw [hfar j (by omega)]
      exact N.recs j hj hj
    · intro j hj hja
      rw [hA] at hja
      show at8 (sec (tearL xs (g % 2) (sealT g 0 ⟨#[]⟩) 128) (placeD (tearL xs (g % 2) (sealT g 0 ⟨#[]⟩) 128) g j)) 0 ≠ g
      rw [hfar j hja]
      exact N.next j hj hja
  | succ d ih =>
    intro xs i hi N
    have hil : i < l.length := by omega
    have hn := logB_nums N.log
    have g1 := N.g1
    have g2 := N.g2
    have hr := N.room
    have hia : (i : Int) < areaD xs := by omega
    have hpl := placeD_in N.log (g := g) (i := i) (by omega) hia
    obtain ⟨hT, hTe⟩ := sealT_is (g := g) (no := (i : Int) + 1) (p := l[i]) (by omega) (by omega) (by omega) (by omega) (hs _ (List.getElem_mem _))
    have W := tear_wrote N.log (q := placeD xs g i) (by omega) hpl.2 hT.size (k := 128) (by omega) (by omega)
    rw [show (128 : Int).toNat = 128 from rfl, over_all (sec_size N.log (by omega) hpl.2) hT.size] at W
    have hA := areaD_len W.len
    have hw : wrL xs (placeD xs g i) (sealT g ((i : Int) + 1) l[i]) fz = (tearL xs (placeD xs g i) (sealT g ((i : Int) + 1) l[i]) 128, 0) := rfl
    have e : turnW g xs i (l.drop i) [] = turnW g (tearL xs (placeD xs g i) (sealT g ((i : Int) + 1) l[i]) 128) (i + 1) (l.drop (i + 1)) [] := by
      rw [List.drop_eq_getElem_cons hil]
      conv => lhs; unfold turnW
      rw [hTe, show ([] : List Flt).headD fz = fz from rfl, hw, if_pos rfl]
      rfl
    rw [e]
    have hfar : ∀ j : Nat, (j : Int) < areaD xs → j ≠ i → sec (tearL xs (placeD xs g i) (sealT g ((i : Int) + 1) l[i]) 128) (placeD (tearL xs (placeD xs g i) (sealT g ((i : Int) + 1) l[i]) 128) g j) = sec xs (placeD xs g j) := by
      intro j hj hne
      have := placeD_in N.log (g := g) (i := j) (by omega) hj
      rw [placeD_len W.len, W.far _ (by omega) (fun e => hne (by have := (placeD_inj N.log (by omega) hj (by omega) hia e).2; omega))]
    obtain ⟨r1, r2, r3⟩ := ih (tearL xs (placeD xs g i) (sealT g ((i : Int) + 1) l[i]) 128) (i + 1) (by omega) ⟨W.log, g1, g2, by rw [hA]; exact hr, by rw [W.far _ (by omega) (by omega)]; exact N.other, fun j hj hji => by
      by_cases e : j = i
      · subst e
        rw [placeD_len W.len, W.here]
        exact ⟨⟨hT.opens, hT.gen, hT.num⟩, hT.pay⟩
      · rw [hfar j (by omega) e]
        exact N.recs j hj (by omega), fun j hj hja => by
      rw [hA] at hja
      rw [hfar j hja (by omega)]
      exact N.next j (by omega) hja⟩
    exact ⟨r1, r2, r3.trans W.len⟩
theorem boot_okB {xs : List ByteArray} (hlog : logB xs = true) (h0 : newestD xs ≠ 0) : (⟨xs, newestD xs, (foundA xs (newestD xs)).length, topF 0 xs, false⟩ : Sto).okB = true ∧ newestD xs ≤ topF 0 xs ∧ 1 ≤ newestD xs ∧ topF 0 xs ≤ 250 := by
  have hn := logB_nums hlog
  have r0 := hdrG_range (sec xs 0) 0
  have r1 := hdrG_range (sec xs 1) 1
  have hm : ∀ s : Nat, s < 2 → hdrG (sec xs s) s ≤ topF 0 xs := by
    intro s hs
    by_cases h : hdrG (sec xs s) s = 0
    · rw [h]; exact topF_mono xs 0
    · have := hdrG_range (sec xs s) s
      have h2 := (hdrG_at h).1
      have := topF_ge (xs := xs) (x := sec xs s) (by rw [sec_get (by omega)]; exact List.getElem_mem _) (by omega) 0
      omega
  have m0 : hdrG (sec xs 0) 0 ≤ topF 0 xs := hm 0 (by omega)
  have m1 : hdrG (sec xs 1) 1 ≤ topF 0 xs := hm 1 (by omega)
  have ht : topF 0 xs ≤ 250 := topF_le xs 250 (fun _ _ h => h) 0 (by omega)
  have hne : newestD xs ≤ topF 0 xs ∧ 1 ≤ newestD xs ∧ newestD xs ≤ 250 := by
    unfold newestD at h0 ⊢
    omega
  have hf := foundD_len xs (newestD xs) (areaD xs).toNat 0
  have hfa : ((foundA xs (newestD xs)).length : Int) ≤ areaD xs := by unfold foundA; omega
  refine ⟨?_, hne.1, hne.2.1, ht⟩
  unfold Sto.okB inB
  rw [hlog]
  simp
  omega
theorem boot_turn {xs : List ByteArray} (hlog : logB xs = true) (h0 : newestD xs ≠ 0) {g : Int} (hg : topF 0 xs < g) (hg2 : g ≤ 250) {l : List ByteArray} (hs : ∀ p ∈ l, p.size ≤ 96) (hl : (l.length : Int) ≤ areaD xs) :
    (turnW g xs 0 l []).2 = 0 ∧ InvF (turnW g xs 0 l []).1 g l ∧ (turnW g xs 0 l []).1.length = xs.length := by
  obtain ⟨_, b1, b2, b3⟩ := boot_okB hlog h0
  have hn := logB_nums hlog
  have hin : ∀ i : Int, 0 ≤ i → i < xs.length → sec xs i ∈ xs := by
    intro i h0 hi
    obtain ⟨n, rfl⟩ : ∃ n : Nat, i = n := ⟨i.toNat, by omega⟩
    rw [sec_get (by omega)]
    exact List.getElem_mem _
  have hf : ∀ i : Int, 0 ≤ i → i < xs.length → at8 (sec xs i) 0 ≤ 250 → at8 (sec xs i) 0 ≤ topF 0 xs := fun i a b c => topF_ge (hin i a b) c 0
  have := turnF hs l.length xs 0 (by omega) ⟨hlog, by omega, hg2, hl, ?_, fun j _ hj => absurd hj (by omega), fun j _ hj => ?_⟩
  · rwa [List.drop_zero] at this
  · by_cases h : hdrG (sec xs (1 - g % 2)) (1 - g % 2) = 0
    · omega
    · have h1 := (hdrG_at h).1
      have h2 := hdrG_range (sec xs (1 - g % 2)) (1 - g % 2)
      have := hf (1 - g % 2) (by omega) (by omega) (by omega)
      omega
  · have hpl := placeD_in hlog (g := g) (i := j) (by omega) hj
    intro e
    have := hf _ (by omega) hpl.2 (by omega)
    omega
end Go.Proofs.Ytopaddpclipnjaa
namespace Go.Proofs.Ytopaddpclipnjaa
open Go.RowKit Go.ChangeShapes Go.WideShapes Go.ChangeAt Go.Proofs.YtopaddpclipnjaaW.PrintWords
def Opens (P : Program) (W : World) (t : TypeId) {α : Type} (d : Kd α) (Q : α → Prop) : Prop :=
  ∀ {H : Type} (enc : TypeId × Value → H) (base : Nat) (spare : Nat → Bool) (held : Bool) (fuel : Nat) (cs : List Value) (y : DataW H × List MemPlace), DataW.trod enc P W base spare held fuel t cs = some y → cs.length = d.sz → ∃ x, d.K W x cs ∧ Q x
def OpensL (P : Program) (W : World) (fs : List Field) (o : Nat) {α : Type} (d : Kd α) (Q : α → Prop) : Prop :=
  ∀ {H : Type} (enc : TypeId × Value → H) (base : Nat) (spare : Nat → Bool) (held : Bool) (cs : List Value), (∀ (j : Nat) (f : Field), fs[j]? = some f → ∃ fuel y, DataW.trod enc P W base spare held fuel f.type ((cs.drop (f.offset - o)).take (P.cellsOf f.type)) = some y) → cs.length = d.sz → ∃ x, d.K W x cs ∧ Q x
section
variable {P : Program} {W : World} {t e : TypeId} {α β : Type} {d : Kd α} {Q : α → Prop}
theorem opens_string (ht : P.underlying t = some .string) : Opens P W t Kd.string (fun s => s.size ≤ maxLen) := by
  intro H enc base spare held fuel cs y h _
  obtain ⟨n, rfl, _, hw⟩ := DataW.trod_string ht h
  exact ⟨n, rfl, hw⟩
theorem opens_C (hc : P.cellsOf e = d.sz) (h0 : 0 < d.sz) (h : Opens P W e d Q) {H : Type} {enc : TypeId × Value → H} {base : Nat} {spare : Nat → Bool} {held : Bool} {p : List MemPlace} {dd : DataW H} (ht : P.underlying t = some (.slice e)) {v : Value} (ht2 : DataW.Trod enc P W base spare held t v dd p) (hv : ∃ a l c, v = .slice a l c) :
    ∃ (xs : List α) (A : Option Addr) (c : Nat), v = .slice A xs.length c ∧ xs.length ≤ c ∧ d.C W A xs.length xs ∧ ∀ x ∈ xs, Q x := by
  obtain ⟨n, cells, hS, hel⟩ := sl_of_trod ht hc h0 ht2 hv
  have hx : ∀ i, i < n → ∃ x, d.K W x ((cells.drop (i * d.sz)).take d.sz) ∧ Q x := by
    intro i hi
    obtain ⟨f, y, hy⟩ := hel i hi
    refine h enc base spare held f _ y hy ?_
    have hle : i * d.sz + d.sz ≤ n * d.sz := by rw [← Nat.succ_mul]; exact Nat.mul_le_mul_right _ hi
    rw [List.length_take, List.length_drop, hS.1]
    omega
  have hxs : ∀ m, m ≤ n → ∃ xs : List α, xs.length = m ∧ ∀ i x, xs[i]? = some x → d.K W x ((cells.drop (i * d.sz)).take d.sz) ∧ Q x := by
    intro m
    induction m with
    | zero => exact fun _ => ⟨[], rfl, fun i x hx => by simp at hx⟩
    | succ m ih =>
      intro hm
      obtain ⟨xs, hl, hq⟩ := ih (by omega)
      obtain ⟨x, hk, hqx⟩ := hx m (by omega)
      refine ⟨xs ++ [x], by simp [hl], fun i y hy => ?_⟩
      rcases Nat.lt_or_ge i xs.length with hi | hi
      · rw [List.getElem?_append_left hi] at hy
        exact hq i y hy
      · rw [List.getElem?_append_right hi] at hy
        obtain ⟨h1, h2⟩ := List.getElem?_eq_some_iff.1 hy
        have hi2 : i = m := by simp at h1; omega
        subst hi2
        simp at h2
        subst h2
        exact ⟨hk, hqx⟩
  obtain ⟨xs, hl, hq⟩ := hxs n (Nat.le_refl _)
  obtain ⟨a, c, hv2, hnc, hnm⟩ := hS.form
  subst hv2
  subst hl
  refine ⟨xs, a, c, rfl, hnc, ⟨rfl, by unfold maxLen at hnm; omega, fun hp => ?_⟩, fun x hx => ?_⟩
  · obtain ⟨b, o, rfl, _, hcell⟩ := hS.at hp
    refine ⟨_, rfl, fun j p hj => ⟨_, ?_, (hq j p hj).1, fun i u hu => ?_⟩⟩
    · exact d.K_len (hq j p hj).1
    · rw [List.getElem?_take] at hu
      split at hu
      · rw [List.getElem?_drop] at hu
        rw [add_off]
        exact hcell _ _ hu
      · cases hu
  · obtain ⟨i, hi, rfl⟩ := List.mem_iff_getElem.1 hx
    exact (hq i _ (List.getElem?_eq_getElem hi)).2
theorem opens_slice (ht : P.underlying t = some (.slice e)) (hc : P.cellsOf e = d.sz) (h0 : 0 < d.sz) (h : Opens P W e d Q) : Opens P W t (Kd.slice e d) (fun xs => ∀ x ∈ xs, Q x) := by
  intro H enc base spare held fuel cs y hy hl
  obtain ⟨u, rfl⟩ : ∃ u, cs = [u] := by
    match cs, hl with
    | [u], _ => exact ⟨u, rfl⟩
  obtain ⟨hv, h2⟩ := slice_of_trod ht hy
  obtain ⟨xs, A, c, rfl, h3, h4, h5⟩ := opens_C hc h0 h ht h2 hv
  exact ⟨xs, ⟨A, c, rfl, h3, h4⟩, h5⟩
theorem opensL_one {f : Field} (h : Opens P W f.type d Q) (hc : P.cellsOf f.type = d.sz) : OpensL P W [f] f.offset d Q := by
  intro H enc base spare held cs hf hl
  obtain ⟨fuel, y, hy⟩ := hf 0 f rfl
  rw [Nat.sub_self, List.drop_zero, hc, List.take_of_length_le (by omega)] at hy
  exact h enc base spare held fuel cs y hy hl
theorem opens_struct {fs : Array Field} (ht : P.underlying t = some (.struct fs)) (h : OpensL P W fs.toList 0 d Q) : Opens P W t d Q := by
  intro H enc base spare held fuel cs y hy hl
  obtain ⟨xs, n, _, _, _, hlx, hx⟩ := DataW.trod_struct ht hy
  refine h enc base spare held cs (fun j f hf => ?_) hl
  have hf' : fs[j]? = some f := by simpa using hf
  have h1 := hx j f hf'
  have hj : j < xs.length := by rw [hlx]; exact (Array.getElem?_eq_some_iff.1 hf').1
  rw [List.getElem?_eq_getElem hj] at h1
  exact ⟨n, _, h1⟩
theorem Opens.imp {Q' : α → Prop} (h : Opens P W t d Q) (hq : ∀ x, Q x → Q' x) : Opens P W t d Q' := by
  intro H enc base spare held fuel cs y hy hl
  obtain ⟨x, hk, hx⟩ := h enc base spare held fuel cs y hy hl
  exact ⟨x, hk, hq x hx⟩
theorem arg_slice (hc : P.cellsOf e = d.sz) (h0 : 0 < d.sz) (h : Opens P W e d Q) {H : Type} {enc : TypeId × Value → H} {r : Reach} {base bb : Nat} {spare : Nat → Bool} {held : Bool} {p : List MemPlace} {dd : DataW H} (ht : P.underlying t = some (.slice e)) {v : Value} (hv : Value.okWide P W r bb t v) (h2 : DataW.Trod enc P W base spare held t v dd p) :
    ∃ xs : List α, (∃ (A : Option Addr) (c : Nat), v = .slice A xs.length c ∧ xs.length ≤ c ∧ d.C W A xs.length xs) ∧ ∀ x ∈ xs, Q x := by
  obtain ⟨xs, A, c, h3, h4, h5, h6⟩ := opens_C hc h0 h ht h2 (okWide_slice ht hv)
  exact ⟨xs, ⟨A, c, h3, h4, h5⟩, h6⟩
theorem arg_struct (h : Opens P W t d Q) {fs : Array Field} (hc : P.cellsOf t = d.sz) {H : Type} {enc : TypeId × Value → H} {r : Reach} {base bb : Nat} {spare : Nat → Bool} {held : Bool} {p : List MemPlace} {dd : DataW H} (ht : P.underlying t = some (.struct fs)) {v : Value} (hv : Value.okWide P W r bb t v) (h2 : DataW.Trod enc P W base spare held t v dd p) :
    ∃ x : α, (∃ cs : List Value, v = .agg cs.toArray ∧ d.K W x cs) ∧ Q x := by
  obtain ⟨cs, rfl, hsz⟩ := okWide_struct ht hv
  obtain ⟨fuel, hf⟩ := h2
  obtain ⟨x, hk, hq⟩ := h enc base spare held fuel cs.toList _ hf (by simpa [hc] using hsz)
  exact ⟨x, ⟨cs.toList, by simp, hk⟩, hq⟩
end
end Go.Proofs.Ytopaddpclipnjaa
namespace Go.Proofs.YtopaddpclipnjaaQ.P
open Go.RowKit Go.ChangeShapes Go.WideShapes Go.ChangeAt Go.Proofs.YtopaddpclipnjaaW.PrintWords Go.Proofs.Ytopaddpclipnjaa
theorem anyO4 {P : Program} {W : World} {t : TypeId} {α : Type} {d : Kd α} {Q : α → Prop} (h : Opens P W t d Q) : Opens P W t d (fun _ => True) := h.imp fun _ _ => trivial
theorem opensS4 (W : World) : Opens Try.prog W 9 Kd.string (fun _ => True) := anyO4 (opens_string Try.underlying9)
theorem opensSs4 (W : World) : Opens Try.prog W 22 (Kd.slice 9 Kd.string) (fun _ => True) := anyO4 (opens_slice Try.underlying22 (by kernel_rfl) (by decide) (opensS4 W))
theorem opensDsk4 (W : World) : Opens Try.prog W 24 (Kd.slice 9 Kd.string) (fun _ => True) := opens_struct Try.underlying24 (opensL_one (opensSs4 W) (by kernel_rfl))
def DskR (v : Value) (W : World) (xs : List ByteArray) : Prop := ∃ (A : Option Addr) (c : Nat), v = .agg #[.slice A xs.length c] ∧ Kd.C Kd.string W A xs.length xs ∧ xs.length ≤ c
def StrR (v : Value) (W : World) (xs : List ByteArray) : Prop := ∃ (A : Option Addr) (c : Nat), v = .slice A xs.length c ∧ Kd.C Kd.string W A xs.length xs ∧ xs.length ≤ c
section
variable {W : World} {H : Type} {enc : TypeId × Value → H} {r : Reach} {base bb : Nat} {spare : Nat → Bool} {held : Bool} {p : List MemPlace} {dd : DataW H} {v : Value}
set_option maxRecDepth 100000 in
theorem argDsk (hv : Value.okWide Try.prog W r bb 24 v) (h2 : DataW.Trod enc Try.prog W base spare held 24 v dd p) : ∃ xs : List ByteArray, DskR v W xs := by
  obtain ⟨xs, ⟨cs, rfl, hk⟩, _⟩ := arg_struct (opensDsk4 W) (by kernel_rfl) Try.underlying24 hv h2
  obtain ⟨A, c, rfl, h1, k1⟩ := hk
  exact ⟨xs, A, c, rfl, k1, h1⟩
set_option maxRecDepth 100000 in
theorem argStrs (hv : Value.okWide Try.prog W r bb 22 v) (h2 : DataW.Trod enc Try.prog W base spare held 22 v dd p) : ∃ xs : List ByteArray, StrR v W xs := by
  obtain ⟨xs, ⟨A, c, h1, h2, h3⟩, _⟩ := arg_slice (by kernel_rfl) (by decide) (opensS4 W) Try.underlying22 hv h2
  exact ⟨xs, A, c, h1, h3, h2⟩
end
end Go.Proofs.YtopaddpclipnjaaQ.P
namespace Go.Proofs.YtopaddpclipnjaaQ.P
open Go.RowKit Go.Proofs.YtopaddpclipnjaaW.PrintWords Go.Proofs.YtopaddpclipnjaaW.PrintMore Go.Proofs.Ytopaddpclipnjaa
theorem turns_end (xs : List ByteArray) (hx : xs.length ≤ 132) (p : ByteArray) (hp : p.size ≤ 96) (L ts : List ByteArray) (hL : ∀ x ∈ L, x.size ≤ 96) (hLn : L.length ≤ 64) (k : Nat) (hk : 400 < k) :
    foghornlaw04_StoreTurns.l0 k p L ts (ts.length : Int) (ts.length : Int) xs = some true := by
  obtain ⟨k, rfl⟩ : ∃ m, k = m + 1 := ⟨k - 1, by omega⟩
  simp only [foghornlaw04_StoreTurns.l0]
  rw [if_neg (by omega), boot_f xs (by omega) (by omega), Option.bind_some]
  have harea : wrap64 ((wrap64 ((xs.length : Int) / 2)) - 1) = areaD xs := by
    unfold areaD wrap64
    omega
  by_cases hlog : logB xs = true
  · by_cases h0 : newestD xs = 0
    · have hb : bootS xs = (Sto.zero, [], 4) := by unfold bootS; rw [if_neg (by rw [hlog]; decide), if_pos h0]
      rw [hb]
      unfold bootOut
      simp only
      rw [if_neg (by decide), alive_f (by omega), Option.bind_some, if_pos rfl]
      rfl
    · have hb : bootS xs = (⟨xs, newestD xs, (foundA xs (newestD xs)).length, topF 0 xs, false⟩, foundA xs (newestD xs), 0) := by unfold bootS; rw [if_neg (by rw [hlog]; decide), if_neg h0]
      obtain ⟨hok, b1, b2, b3⟩ := boot_okB hlog h0
      have hn := logB_nums hlog
      rw [hb]
      unfold bootOut
      simp only
      rw [if_pos trivial]
      obtain ⟨s, hs⟩ : ∃ s : Sto, s = ⟨xs, newestD xs, (foundA xs (newestD xs)).length, topF 0 xs, false⟩ := ⟨_, rfl⟩
      have ht : store_Turn.f xs (newestD xs) (foundA xs (newestD xs)).length (topF 0 xs) false L [] = stoOut (turnS s L []) := by rw [hs]; rfl
      rw [ht]
      have c1 : s.xs = xs := by rw [hs]
      have c2 : s.gen = newestD xs := by rw [hs]
      have c3 : s.top = topF 0 xs := by rw [hs]
      have c4 : s.down = false := by rw [hs]
      rw [← hs] at hok
      have hng := nextG_facts s
      have hm : mayS s L [] = 0 := mayS_go hok c4 hL rfl
      unfold turnS
      rw [if_pos hm, c1]
      by_cases hc : areaD xs < L.length ∨ 250 < nextG s
      · rw [if_pos hc]
        unfold stoOut
        rw [Option.bind_some]
        simp only
        rw [if_neg (by decide), if_pos trivial, harea]
        by_cases h1 : (L.length : Int) > areaD xs
        · rw [if_pos h1]
        · rw [if_neg h1]
          congr 1
          rw [decide_eq_true_eq]
          omega
      · rw [if_neg hc]
        obtain ⟨r1, r2, r3⟩ := boot_turn hlog h0 (g := nextG s) (by omega) (by omega) hL (by omega)
        obtain ⟨R, hR⟩ : ∃ R, R = turnW (nextG s) xs 0 L [] := ⟨_, rfl⟩
        rw [← hR] at r1 r2 r3 ⊢
        unfold stoOut
        rw [Option.bind_some]
        simp only
        rw [r1]
        simp only [if_true]
        have hd9 : decide ((0 : Int) = 9) = false := rfl
        rw [if_neg (by omega), w64 (x := topF 0 xs + 2) (by omega) (by omega), if_neg (by omega), w64 (x := nextG s - newestD xs) (by omega) (by omega), if_neg (by rw [Int.tmod_eq_emod_of_nonneg (by omega)]; omega), alive_f (by omega), Option.bind_some, harea]
        obtain ⟨k, rfl⟩ : ∃ m, k = m + 1 := ⟨k - 1, by omega⟩
        simp only [foghornlaw04_StoreTurns.j1]
        rw [if_neg (by decide)]
        obtain ⟨a, ha⟩ : ∃ a : Sto, a = ⟨R.1, nextG s, L.length, nextG s, false⟩ := ⟨_, rfl⟩
        have hap : store_Append.f R.1 (nextG s) (L.length : Int) (nextG s) (decide ((0 : Int) = 9)) p 0 0 = stoOut (appendS a p ⟨0, 0⟩) := by rw [ha]; rfl
        rw [hap]
        have hA2 : areaD R.1 = areaD xs := areaD_len r3
        have haok : a.okB = true := by
          rw [ha]
          unfold Sto.okB inB
          simp only
          rw [r2.log]
          simp
          omega
        have hma : mayS a [p] [⟨0, 0⟩] = 0 := mayS_go haok (by rw [ha]) (by simpa using hp) (by decide)
        unfold appendS
        rw [if_pos hma]
        have d1 : a.xs = R.1 := by rw [ha]
        have d2 : a.used = L.length := by rw [ha]
        have d3 : a.gen = nextG s := by rw [ha]
        rw [d1, d2, hA2]
        by_cases hfull : (L.length : Int) = areaD xs
        · rw [if_pos hfull]
          unfold stoOut
          rw [Option.bind_some, if_pos hfull]
          rfl
        · rw [if_neg hfull]
          have hq : appS a p ⟨0, 0⟩ = ({ a with xs := tearL R.1 (placeD R.1 (nextG s) L.length) (sealS (nextG s) (L.length + 1) p) 128, used := (L.length : Int) + 1 }, 0) := by
            unfold appS
            rw [if_neg (by decide), if_neg (by decide), d1, d2, d3]
          have F := r2.more (by rw [hA2]; omega) hp
          have hl2 := (logB_nums F.log).2.1
          rw [hq]
          unfold stoOut
          rw [Option.bind_some, if_neg hfull]
          simp only
          rw [boot_f _ (by omega) (by omega), Option.bind_some, F.boot]
          unfold bootOut
          simp only
          rw [if_pos trivial, if_pos trivial, if_pos (by omega), texts_f _ _ (by simp; omega) (by simp; omega)]
          simp
  · have hb : bootS xs = (Sto.zero, [], 1) := by unfold bootS; rw [if_pos (by simpa using hlog)]
    rw [hb]
    unfold bootOut
    simp only
    rw [if_neg (by decide), alive_f (by omega), Option.bind_some, if_pos rfl]
    rfl
theorem turns_l (xs : List ByteArray) (hx : xs.length ≤ 132) (p : ByteArray) (hp : p.size ≤ 96) (ts : List ByteArray) (hts : ts.length ≤ 64) (d : Nat) : ∀ (k i : Nat) (acc : List ByteArray), i + d = ts.length → d + 400 < k → acc.length = i → (∀ x ∈ acc, x.size ≤ 96) →
    foghornlaw04_StoreTurns.l0 k p acc ts (ts.length : Int) i xs = some true := by
  induction d with
  | zero =>
    intro k i acc h hk ha hs
    obtain rfl : i = ts.length := by omega
    exact turns_end xs hx p hp acc ts hs (by omega) k (by omega)
  | succ d ih =>
    intro k i acc h hk ha hs
    obtain ⟨k, rfl⟩ : ∃ m, k = m + 1 := ⟨k - 1, by omega⟩
    have hi : i < ts.length := by omega
    have e1 := mn_eq ((ts[i]).size : Int) 96
    simp only [foghornlaw04_StoreTurns.l0]
    rw [if_pos (by omega), if_pos (by omega), if_pos (by omega), rd_at hi, if_pos (by omega), if_pos (by omega), if_pos (by omega), cutB_mn 96 96 _ rfl, w64s (by omega)]
    refine ih k (i + 1) _ (by omega) (by omega) (by simp; omega) (fun x hx => ?_)
    rcases List.mem_append.1 hx with hx | hx
    · exact hs x hx
    · rw [List.mem_singleton.1 hx, cutB_size]
      omega
theorem turns_pure (l0_0 l1 : List ByteArray) (a2 : ByteArray) : foghornlaw04_StoreTurns.f 500 l0_0 l1 a2 = some true := by
  have e1 := mn_eq (a2.size : Int) 96
  unfold foghornlaw04_StoreTurns.f
  rw [few132 _ (by omega), Option.bind_some, if_pos (by omega), if_pos (by omega), show foghornlaw04_few.f 500 l1 64 = _ from few_f l1 64 (by omega) (by omega), Option.bind_some, cutB_mn 96 96 _ rfl]
  have hl : ((l1.take 64).map (cutB 130)).length ≤ 64 := by rw [List.length_map]; exact List.length_take_le _ _
  exact turns_l (cutD l0_0) (cutD_len _) (cutB 96 a2) (by rw [cutB_size]; omega) _ hl _ 500 0 [] (Nat.zero_add _) (by omega) rfl (by simp)
theorem StoreTurns_walk (v0 : Value) (xs : List ByteArray) (v1 : Value) (l : List ByteArray) (p : ByteArray) (w : World) (h0 : DskR v0 w xs) (h1 : StrR v1 w l) (h2 : p.size ≤ maxLen) :
    Calls Try.prog 8 #[v0, v1, .string p] w fun e w' => e = .returned (.bool true) ∧ Below w.heap.size w w' := by
  obtain ⟨A, c, rfl, k1, k2⟩ := h0
  obtain ⟨B, d, rfl, k3, k4⟩ := h1
  exact foghornlaw04_StoreTurns.calls 500 A c xs B d l p true w k1 k2 k3 k4 (turns_pure ..)
end Go.Proofs.YtopaddpclipnjaaQ.P
namespace Go.Proofs.Ytopaddpclipnjaa.storeTurns
open Go.ChangeShapes Go.WideShapes Go.ChangeAt Go.RowKit Go.Proofs.YtopaddpclipnjaaQ.P
open Go.ChangeMaps (open_string shut_string)
theorem own : ownKnob Try.prog.godebug = none := by kernel_rfl
theorem laidOut : laidOutB Try.prog = true := by kernel_rfl
set_option maxRecDepth 100000 in
theorem lifted (os : Os) (started : os.Started) (H : Type) (enc : TypeId × Value → H) :
    ReturnsInHanded {} Try.checked os 8 .any (Rows.storeTurnsSpec.pre6 enc Try.prog Try.f8 Rows.storeTurnsRow.domain false) (Rows.storeTurnsSpec.post enc Try.prog Try.f8 false true false false) := by
  refine returnsInHanded_of_change (C := Try.checked) own started (by kernel_rfl) Try.func8
    (ChangeSpec.witness6 (enc := enc) (C := Try.checked) false ⟨#[], #[.agg #[.slice none 0 0], .slice none 0 0, .string ByteArray.empty], []⟩ 8 (by kernel_rfl) (by kernel_rfl) (by kernel_rfl) (by kernel_rfl)) ?_
  intro W base args ds gs before hval0 hW hcnd _
  have hval : ∀ (j : Nat) t v, Try.f8.params[j]? = some t → args[j]? = some v → Value.okWide Try.prog W .any base t v := hval0
  have hW' := hW
  obtain ⟨p, q, hA0, hV, rfl, hfz, hnd⟩ := hW
  have hA : DataW.TrodAll enc Try.prog W 0 (fun _ => true) true Try.f8.params.toList args.toList ds p := hA0
  rw [Try.params8] at hA hval
  obtain ⟨v0, vs0, d0, ds0, p0, q0, hargs, rfl, rfl, h0, r0⟩ := trodAll_cons hA
  obtain ⟨v1, vs1, d1, ds1, p1, q1, rfl, rfl, rfl, h1, r1⟩ := trodAll_cons r0
  obtain ⟨v2, vs2, d2, ds2, p2, q2, rfl, rfl, rfl, h2, r2⟩ := trodAll_cons r1
  obtain ⟨rfl, rfl, rfl⟩ := trodAll_nil r2
  obtain rfl : args = #[v0, v1, v2] := by cases args; simp_all
  obtain ⟨rfl, rfl⟩ := trodVars_none hV
  have lt0 : ∀ x ∈ p0, x.block < W.heap.size := by obtain ⟨m, hm⟩ := h0; exact DataW.trod_lt m _ _ _ hm
  have k0 := h0
  have lt1 : ∀ x ∈ p1, x.block < W.heap.size := by obtain ⟨m, hm⟩ := h1; exact DataW.trod_lt m _ _ _ hm
  have k1 := h1
  have lt2 : ∀ x ∈ p2, x.block < W.heap.size := by obtain ⟨m, hm⟩ := h2; exact DataW.trod_lt m _ _ _ hm
  have k2 := h2
  obtain ⟨a0, w0⟩ := argDsk (hval 0 24 v0 rfl rfl) h0
  obtain ⟨a1, w1⟩ := argStrs (hval 1 22 v1 rfl rfl) h1
  obtain ⟨a2, rfl, rfl, rfl, w2⟩ := open_string Try.underlying9 (hval 2 9 v2 rfl rfl) h2
  clear hA0 hval0
  refine (StoreTurns_walk v0 a0 v1 a1 a2 W w0 w1 w2).mono fun e W' ⟨he, bel⟩ => ?_
  subst he
  exact ⟨_, rfl, _, _, _, [], _, [], hW', trodAll_mk1 (shut_bool Try.underlying4 _), (trodAll_cons_mk (Below.trod laidOut (by kernel_rfl) (of_decide_eq_true (by kernel_rfl)) k0 bel lt0) (trodAll_cons_mk (Below.trod laidOut (by kernel_rfl) (of_decide_eq_true (by kernel_rfl)) k1 bel lt1) (trodAll_cons_mk (Below.trod laidOut (by kernel_rfl) (of_decide_eq_true (by kernel_rfl)) k2 bel lt2) trodAll_mk0))), rfl, bel.frame _, fun h => by cases h⟩
theorem over : Rows.storeTurnsRow.holds Try.pinned (OpenSpec.ofChange Rows.storeTurnsSpec) :=
  OpenClaim.holds_of_wide 8 Try.f8 rfl rfl rfl rfl rfl rfl rfl ⟨rfl, rfl, rfl, rfl, rfl⟩ rfl rfl rfl rfl rfl (by kernel_rfl) Try.func8 (by kernel_rfl)
    (of_decide_eq_true (by kernel_rfl)) (by unfold Func.isWrapper; first | (rw [if_pos (by decide +kernel)]; kernel_rfl) | (rw [if_neg (by decide +kernel)]; exact ⟨rfl, rfl⟩))
    (fun os started H enc _ => lifted os started H enc)
end Go.Proofs.Ytopaddpclipnjaa.storeTurns
namespace Go.Proofs.Ytopaddpclipnjaa
theorem storeTurns_holds : Rows.StoreTurnsSaid := storeTurns.over
#print axioms storeTurns_holds
end Go.Proofs.Ytopaddpclipnjaa
