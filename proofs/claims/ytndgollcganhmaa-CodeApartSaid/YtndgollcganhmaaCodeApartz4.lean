/- The statement 'CodeApart': for every input the law returns true, and each argument reads behind the call as it read before. No condition. -/
import Derived.WideShapes
import Derived.Test.YtndgollcganhmaaRows
import Derived.WalkKit
import Derived.ProofKit
import Derived.OpenShut
import Derived.ShutString
import Derived.Below
import Derived.Carry
import Derived.Test.YtndgollcganhmaaCodeApartz1
import Derived.Test.YtndgollcganhmaaCodeApartz3
set_option linter.unusedVariables false
set_option linter.unusedSimpArgs false
namespace Go.Proofs.YtndgollcganhmaaQ.P
open Go.RowKit Go.Proofs.YtndgollcganhmaaW.PrintWords Go.Proofs.Ytndgollcganhmaa
theorem cut17_l (xs : List S41) (hx : xs.length ≤ 6) (d : Nat) : ∀ (k i : Nat) (acc : List S41), i + d = xs.length → d < k → acc.length ≤ i → foghornlaw17_labels.l0 k acc xs (xs.length : Int) i = some (acc ++ (xs.drop i).map cutLS) := by
  induction d with
  | zero =>
    intro k i acc h hk ha
    obtain ⟨k, rfl⟩ : ∃ m, k = m + 1 := ⟨k - 1, by omega⟩
    simp only [foghornlaw17_labels.l0]
    rw [if_neg (by omega), drop_end (by omega)]
    simp
  | succ d ih =>
    intro k i acc h hk ha
    obtain ⟨k, rfl⟩ : ∃ m, k = m + 1 := ⟨k - 1, by omega⟩
    have hi : i < xs.length := by omega
    simp only [foghornlaw17_labels.l0]
    have e1 := mn_eq ((xs[i].f0).size : Int) 12
    have e2 := mn_eq ((xs[i].f1).size : Int) 12
    rw [rdL hi, if_pos (by omega), if_pos (by omega), if_pos (by omega), if_pos (by omega), if_pos (by omega), if_pos (by omega), if_pos (by omega), if_pos (by omega), w64s (by omega), ih k (i + 1) _ (by omega) (by omega) (by simp; omega), drop_cons hi]
    rw [cutB_mn 12 12 _ rfl, cutB_mn 12 12 _ rfl]
    simp only [cutLS, List.map_cons, List.append_assoc, List.singleton_append]
theorem cut17_f (xs : List S41) {k : Nat} (hk : 7 ≤ k) : foghornlaw17_labels.f k xs = some ((xs.take 5).map cutLS) := by
  unfold foghornlaw17_labels.f
  have e1 := mn_eq (xs.length : Int) 5
  rw [if_pos (by omega), if_pos (by omega), Option.bind_some]
  rw [take_mn 5 5 _ rfl]
  have hl : (xs.take 5).length ≤ 5 := List.length_take_le _ _
  have := cut17_l (xs.take 5) (by omega) (xs.take 5).length k 0 [] (by omega) (by omega) (by simp)
  simpa using this
theorem few17_l (xs : List S35) (hx : xs.length ≤ 6) (b0 : Int) (b1 : List S41) (b2 b3 b4 b5 b6 : Int) (b7 : List S41) (b8 b9 : Int) (b10 : List S35) (d : Nat) : ∀ (k i : Nat) (acc : List S35), i + d = xs.length → d + 7 < k → acc.length ≤ i → foghornlaw17_few.l0 k acc xs (xs.length : Int) i b0 b1 b2 b3 b4 b5 b6 b7 b8 b9 b10 = some (b0, (b1.take 5).map cutLS, b2, b3, b4, b5, b6, (b7.take 5).map cutLS, b8, b9, acc ++ (xs.drop i).map cutMS) := by
  induction d with
  | zero =>
    intro k i acc h hk ha
    obtain ⟨k, rfl⟩ : ∃ m, k = m + 1 := ⟨k - 1, by omega⟩
    simp only [foghornlaw17_few.l0]
    rw [if_neg (by omega), drop_end (by omega), cut17_f b1 (by omega), Option.bind_some, cut17_f b7 (by omega), Option.bind_some]
    simp
  | succ d ih =>
    intro k i acc h hk ha
    obtain ⟨k, rfl⟩ : ∃ m, k = m + 1 := ⟨k - 1, by omega⟩
    have hi : i < xs.length := by omega
    simp only [foghornlaw17_few.l0]
    have e1 := mn_eq ((xs[i].f1).size : Int) 12
    have e2 := mn_eq ((xs[i].f2).size : Int) 12
    rw [rdM hi, if_pos (by omega), if_pos (by omega), if_pos (by omega), if_pos (by omega), if_pos (by omega), if_pos (by omega), if_pos (by omega), if_pos (by omega), w64s (by omega), ih k (i + 1) _ (by omega) (by omega) (by simp; omega), drop_cons hi]
    rw [cutB_mn 12 12 _ rfl, cutB_mn 12 12 _ rfl]
    simp only [cutMS, List.map_cons, List.append_assoc, List.singleton_append]
theorem few17_f (b0 : Int) (b1 : List S41) (b2 b3 b4 b5 b6 : Int) (b7 : List S41) (b8 b9 : Int) (b10 : List S35) {k : Nat} (hk : 20 ≤ k) :
    ∃ r : Rc, r.sz ∧ r.l10.length ≤ 6 ∧ foghornlaw17_few.f k b0 b1 b2 b3 b4 b5 b6 b7 b8 b9 b10 = some (r.k, r.l1.map ofLab, r.rt, r.pl, r.tr, r.due, r.st, r.l7.map ofLab, r.fr, r.tt, r.l10.map ofMat) := by
  refine ⟨⟨b0, ((b1.take 5).map cutLS).map toLab, b2, b3, b4, b5, b6, ((b7.take 5).map cutLS).map toLab, b8, b9, ((b10.take 6).map cutMS).map toMat⟩, ?_, ?_, ?_⟩
  · have hc : ∀ (xs : List S41), LabsOk ((xs.map cutLS).map toLab) := by
      intro xs x hx
      simp only [List.mem_map] at hx
      obtain ⟨_, ⟨y, _, rfl⟩, rfl⟩ := hx
      have h1 := cutB_size 12 y.f0
      have h2 := cutB_size 12 y.f1
      unfold maxLen
      exact ⟨by show (cutB 12 y.f0).size ≤ _; omega, by show (cutB 12 y.f1).size ≤ _; omega⟩
    refine ⟨hc _, hc _, ?_⟩
    intro x hx
    simp only [List.mem_map] at hx
    obtain ⟨_, ⟨y, _, rfl⟩, rfl⟩ := hx
    have h1 := cutB_size 12 y.f1
    have h2 := cutB_size 12 y.f2
    unfold maxLen
    exact ⟨by show (cutB 12 y.f1).size ≤ _; omega, by show (cutB 12 y.f2).size ≤ _; omega⟩
  · simp
    omega
  · unfold foghornlaw17_few.f
    have e1 := mn_eq (b10.length : Int) 6
    rw [if_pos (by omega), if_pos (by omega), Option.bind_some]
    rw [take_mn 6 6 _ rfl]
    have hl : (b10.take 6).length ≤ 6 := List.length_take_le _ _
    have := few17_l (b10.take 6) hl b0 b1 b2 b3 b4 b5 b6 b7 b8 b9 b10 (b10.take 6).length k 0 [] (by omega) (by omega) (by simp)
    have e : ∀ xs : List S41, (xs.map toLab).map ofLab = xs := fun xs => by simp [Function.comp_def, of_to_lab]
    have e2 : ∀ xs : List S35, (xs.map toMat).map ofMat = xs := fun xs => by simp [Function.comp_def, of_to_mat]
    rw [e, e, e2]
    simpa using this
theorem labsW_num {xs : List Lab} (h : xs.length < 256) (hx : ∀ x ∈ xs, x.name.size < 256 ∧ x.value.size < 256) : numF (labsW xs, false) = (xs.length, (xs.flatMap labT2, false)) ∧ labsF xs.length [] (xs.flatMap labT2, false) = (xs, ([], false)) := by
  refine ⟨numF_u8 h _ _, ?_⟩
  have := labsF_app xs [] [] hx
  rwa [List.append_nil, List.nil_append] at this
theorem matsW_num {xs : List Mat} (h : xs.length < 256) (hx : ∀ x ∈ xs, 0 ≤ x.kind ∧ x.kind < 256 ∧ x.name.size < 256 ∧ x.value.size < 256) : numF (matsW xs, false) = (xs.length, (xs.flatMap matT2, false)) ∧ matsF xs.length [] (xs.flatMap matT2, false) = (xs, ([], false)) := by
  refine ⟨numF_u8 h _ _, ?_⟩
  have := matsF_app xs [] [] hx
  rwa [List.append_nil, List.nil_append] at this
theorem getP_put {r : Rc} (ho : r.okB = true) : getP r.bytes = (r, ([], false)) := by
  unfold getP
  rcases okB_cases ho with ⟨hk1, hd, hr⟩ | ⟨hk1, hd, hr⟩ | ⟨hk1, hd, hr⟩
  · have hq := dutyB_of hd
    have hf := labsB_few hq.2.1
    have ht := tickB_of hq.2.2.1
    have hw := labsW_num (xs := r.l1) (by omega) (fun x hx => by have := hf.2.2 x hx; omega)
    have e0 := fun t => numF_u8i (n := 1) (by omega) (by omega) t false
    have e1 := fun t => numF_u8i (n := r.rt) (by omega) (by omega) t false
    have e2 := fun t => numF_u8i (n := r.pl) (by omega) (by omega) t false
    have e3 := fun t => numF_u8i (n := r.tr) (by omega) (by omega) t false
    have e4 := fun t => numF_u8i (n := r.st) (by omega) (by omega) t false
    have e5 := fun q => timeF_app ht.1 ht.2 q false
    rw [bytes_one hk1]
    simp only [e0, Int.toNat_one, if_true, numK, e1, e2, e3, e4, e5, hw.1, hw.2]
    refine Prod.ext (Eq.trans ?_ hr.symm) rfl
    simp only [Rc.mk.injEq, true_and, and_true]
    omega
  · have hf := labsB_few hd
    have hw := labsW_num (xs := r.l7) (by omega) (fun x hx => by have := hf.2.2 x hx; omega)
    have e0 := fun t => numF_u8i (n := 2) (by omega) (by omega) t false
    rw [bytes_two hk1]
    simp only [e0, Int.reduceToNat, if_true, hw.1, hw.2]
    rw [if_neg (by omega)]
    exact Prod.ext hr.symm rfl
  · have hf := hushB_few hd
    have ht := tickB_of hf.1
    have hu := tickB_of hf.2.1
    have hw := matsW_num (xs := r.l10) (by omega) (fun x hx => by have := matB_few (hf.2.2.2.2.2 x hx); omega)
    have e0 := fun t => numF_u8i (n := 3) (by omega) (by omega) t false
    have e5 := fun q => timeF_app ht.1 ht.2 q false
    have e6 := fun q => timeF_app hu.1 hu.2 q false
    rw [bytes_three hk1]
    simp only [e0, Int.reduceToNat, if_true, e5, e6, hw.1, hw.2]
    rw [if_neg (by omega), if_neg (by omega)]
    refine Prod.ext (Eq.trans ?_ hr.symm) rfl
    simp only [Rc.mk.injEq, true_and, and_true]
    omega
theorem textF_short (r : Rst) : (textF r).1.length ≤ 255 := by
  unfold textF
  rw [takeF_len]
  exact numF_le r
theorem labsF_ok : ∀ (n : Nat) (acc : List Lab) (r : Rst), LabsOk acc → LabsOk (labsF n acc r).1
  | 0, _, _, h => h
  | n + 1, acc, r, h => by
    unfold labsF
    split
    · exact h
    · refine labsF_ok n _ _ fun x hx => ?_
      rcases List.mem_append.1 hx with hx | hx
      · exact h x hx
      · obtain rfl := List.mem_singleton.1 hx
        have h1 := textF_short r
        have h2 := textF_short (textF r).2
        unfold maxLen labF
        simp only [tx_size]
        omega
theorem matsF_ok : ∀ (n : Nat) (acc : List Mat) (r : Rst), MatsOk acc → MatsOk (matsF n acc r).1
  | 0, _, _, h => h
  | n + 1, acc, r, h => by
    unfold matsF
    split
    · exact h
    · refine matsF_ok n _ _ fun x hx => ?_
      rcases List.mem_append.1 hx with hx | hx
      · exact h x hx
      · obtain rfl := List.mem_singleton.1 hx
        have h1 := textF_short (numF r).2
        have h2 := textF_short (textF (numF r).2).2
        unfold maxLen matF
        simp only [tx_size]
        omega
theorem getP_sz (l : List UInt8) : (getP l).1.sz := by
  have nl : LabsOk [] := fun x hx => by cases hx
  have nm : MatsOk [] := fun x hx => by cases hx
  unfold getP
  simp only
  split
  · exact ⟨labsF_ok _ _ _ nl, nl, nm⟩
  · split
    · exact ⟨nl, labsF_ok _ _ _ nl, nm⟩
    · split
      · exact ⟨nl, nl, matsF_ok _ _ _ nm⟩
      · exact ⟨nl, nl, nm⟩
def getOk (l : List UInt8) : Bool := !((getP l).2.2 || !(getP l).2.1.isEmpty || !(getP l).1.okB)
theorem getOk_put {r : Rc} (ho : r.okB = true) : getOk r.bytes = true := by
  unfold getOk
  rw [getP_put ho, ho]
  rfl
def Rc.tupE (r : Rc) (e : Int) : Int × (List S41) × Int × Int × Int × Int × Int × (List S41) × Int × Int × (List S35) × Int :=
  (r.k, r.l1.map ofLab, r.rt, r.pl, r.tr, r.due, r.st, r.l7.map ofLab, r.fr, r.tt, r.l10.map ofMat, e)
theorem get_f {s : ByteArray} (hs : s.size ≤ 100000) : code_Get.f s = some (if getOk (bl s) = true then (getP (bl s)).1.tupE 0 else Rc.zero.tupE 13) := by
  unfold code_Get.f
  rw [if_pos hs, right_f (getP_sz _)]
  simp only [getOk, bl]
  by_cases hq : ((getP s.data.toList).2.2 || !(getP s.data.toList).2.1.isEmpty || !(getP s.data.toList).1.okB) = true
  · simp only [hq, if_true]
    rfl
  · have hq' : ((getP s.data.toList).2.2 || !(getP s.data.toList).2.1.isEmpty || !(getP s.data.toList).1.okB) = false := by simpa using hq
    simp only [hq', if_false]
    rfl
theorem toList_tx (l : List UInt8) : (⟨l.toArray⟩ : ByteArray).toList = l := by
  rw [ByteArray.toList_eq]
theorem alive17_f : foghornlaw17_alive.f = some true := by
  have ho : (⟨2, [], 0, 0, 0, 0, 0, [⟨⟨#[97]⟩, ⟨#[120]⟩⟩], 0, 0, []⟩ : Rc).okB = true := by decide
  have hp := put_ok (sz_of ho) ho
  have hb : (⟨2, [], 0, 0, 0, 0, 0, [⟨⟨#[97]⟩, ⟨#[120]⟩⟩], 0, 0, []⟩ : Rc).bytes = [2, 1, 1, 97, 1, 120] := by decide
  have hg := getP_put ho
  have hk := getOk_put ho
  rw [hb] at hp hg hk
  unfold foghornlaw17_alive.f
  rw [show code_Put.f 2 ([] : List S41) 0 0 0 0 0 [⟨⟨#[97]⟩, ⟨#[120]⟩⟩] 0 0 ([] : List S35) = _ from hp, Option.bind_some, get_f (by decide), Option.bind_some]
  simp only [bl]
  rw [hk, hg]
  simp only [if_true, Rc.tupE]
  rw [if_pos (by rw [toList_tx [2, 1, 1, 97, 1, 120]])]
  rfl
end Go.Proofs.YtndgollcganhmaaQ.P
namespace Go.Proofs.YtndgollcganhmaaQ.P
open Go.RowKit Go.Proofs.YtndgollcganhmaaW.PrintWords Go.Proofs.Ytndgollcganhmaa
theorem tx_toList (l : List UInt8) : (tx l).toList = l := toList_tx l
theorem put17_f {r : Rc} (h : r.sz) : code_Put.f r.k (r.l1.map ofLab) r.rt r.pl r.tr r.due r.st (r.l7.map ofLab) r.fr r.tt (r.l10.map ofMat) = some (if r.okB = true then (tx r.bytes, 0) else (tx [], 1)) := by
  cases ho : r.okB
  · exact put_no h ho
  · exact put_ok h ho
def RecK (v : Value) (w : World) (a0 : Int) (l1 : List S41) (a2 a3 a4 a5 a6 : Int) (l7 : List S41) (a8 a9 : Int) (l10 : List S35) : Prop :=
  ∃ (A1 : Option Addr) (c1 : Nat) (A7 : Option Addr) (c7 : Nat) (A10 : Option Addr) (c10 : Nat), v = .agg #[.int .i64 a0, .slice A1 l1.length c1, .int .i64 a2, .int .i64 a3, .int .i64 a4, .int .i64 a5, .int .i64 a6, .slice A7 l7.length c7, .int .i64 a8, .int .i64 a9, .slice A10 l10.length c10] ∧ l1.length ≤ c1 ∧ Kd.C k41 w A1 l1.length l1 ∧ l7.length ≤ c7 ∧ Kd.C k41 w A7 l7.length l7 ∧ l10.length ≤ c10 ∧ Kd.C k35 w A10 l10.length l10
def RecR (v : Value) (W : World) (x : Rc) : Prop := RecK v W x.k (x.l1.map ofLab) x.rt x.pl x.tr x.due x.st (x.l7.map ofLab) x.fr x.tt (x.l10.map ofMat)
end Go.Proofs.YtndgollcganhmaaQ.P
namespace Go.Proofs.YtndgollcganhmaaQ.P
open Go.RowKit Go.Proofs.YtndgollcganhmaaW.PrintWords Go.Proofs.Ytndgollcganhmaa
theorem bytes_apart {a b : Rc} (ha : a.okB = true) (hb : b.okB = true) : a.bytes = b.bytes ↔ a = b := by
  refine ⟨fun h => ?_, fun h => by rw [h]⟩
  have h1 := getP_put ha
  rw [h, getP_put hb] at h1
  exact (congrArg Prod.fst h1).symm
theorem codeApart_pure (b0 : Int) (b1 : List S41) (b2 b3 b4 b5 b6 : Int) (b7 : List S41) (b8 b9 : Int) (b10 : List S35) (c0 : Int) (c1 : List S41) (c2 c3 c4 c5 c6 : Int) (c7 : List S41) (c8 c9 : Int) (c10 : List S35) : foghornlaw17_CodeApart.f 51 b0 b1 b2 b3 b4 b5 b6 b7 b8 b9 b10 c0 c1 c2 c3 c4 c5 c6 c7 c8 c9 c10 = some true := by
  obtain ⟨r, hs, hl, hf⟩ := few17_f b0 b1 b2 b3 b4 b5 b6 b7 b8 b9 b10 (show 20 ≤ 51 by omega)
  obtain ⟨q, qs, ql, qf⟩ := few17_f c0 c1 c2 c3 c4 c5 c6 c7 c8 c9 c10 (show 20 ≤ 51 by omega)
  unfold foghornlaw17_CodeApart.f
  rw [hf, Option.bind_some, qf, Option.bind_some]
  simp only
  rw [put17_f hs, Option.bind_some, put17_f qs, Option.bind_some]
  cases ho : r.okB
  · cases hq : q.okB
    · simp [foghornlaw17_CodeApart.j0, alive17_f, tx_toList]
    · simp [foghornlaw17_CodeApart.j0, alive17_f, tx_toList]
  · cases hq : q.okB
    · simp [foghornlaw17_CodeApart.j0, alive17_f, tx_toList]
    · simp only [if_true, foghornlaw17_CodeApart.j0, alive17_f, Option.bind_some, bne_self_eq_false, Bool.false_eq_true, if_false]
      rw [same_f r q (by omega) (by omega), Option.bind_some]
      simp only [tx_toList]
      have := bytes_apart ho hq
      by_cases h : r = q
      · simp [h]
      · have h2 : ¬ r.bytes = q.bytes := fun e => h (this.1 e)
        simp [h, h2]
theorem CodeApart_walk (v0 : Value) (x : Rc) (v1 : Value) (y : Rc) (w : World) (hx : RecR v0 w x) (hy : RecR v1 w y) :
    Calls Try.prog 9 #[v0, v1] w fun e w' => e = .returned (.bool true) ∧ Below w.heap.size w w' := by
  obtain ⟨A1, c1, A7, c7, A10, c10, rfl, h1, k1, h7, k7, h10, k10⟩ := hx
  obtain ⟨B1, d1, B7, d7, B10, d10, rfl, g1, m1, g7, m7, g10, m10⟩ := hy
  exact foghornlaw17_CodeApart.calls 51 x.k A1 c1 (x.l1.map ofLab) x.rt x.pl x.tr x.due x.st A7 c7 (x.l7.map ofLab) x.fr x.tt A10 c10 (x.l10.map ofMat) y.k B1 d1 (y.l1.map ofLab) y.rt y.pl y.tr y.due y.st B7 d7 (y.l7.map ofLab) y.fr y.tt B10 d10 (y.l10.map ofMat) true w k1 h1 k7 h7 k10 h10 m1 g1 m7 g7 m10 g10 (codeApart_pure ..)
end Go.Proofs.YtndgollcganhmaaQ.P
namespace Go.Proofs.Ytndgollcganhmaa
open Go.RowKit Go.ChangeShapes Go.WideShapes Go.ChangeAt Go.Proofs.YtndgollcganhmaaW.PrintWords
def Opens (P : Program) (W : World) (t : TypeId) {α : Type} (d : Kd α) (Q : α → Prop) : Prop :=
  ∀ {H : Type} (enc : TypeId × Value → H) (base : Nat) (spare : Nat → Bool) (held : Bool) (fuel : Nat) (cs : List Value) (y : DataW H × List MemPlace), DataW.trod enc P W base spare held fuel t cs = some y → cs.length = d.sz → ∃ x, d.K W x cs ∧ Q x
def OpensL (P : Program) (W : World) (fs : List Field) (o : Nat) {α : Type} (d : Kd α) (Q : α → Prop) : Prop :=
  ∀ {H : Type} (enc : TypeId × Value → H) (base : Nat) (spare : Nat → Bool) (held : Bool) (cs : List Value), (∀ (j : Nat) (f : Field), fs[j]? = some f → ∃ fuel y, DataW.trod enc P W base spare held fuel f.type ((cs.drop (f.offset - o)).take (P.cellsOf f.type)) = some y) → cs.length = d.sz → ∃ x, d.K W x cs ∧ Q x
section
variable {P : Program} {W : World} {t e : TypeId} {α β : Type} {d : Kd α} {Q : α → Prop}
theorem opens_int {k : IntKind} (ht : P.underlying t = some (.int k)) : Opens P W t (Kd.int k) (fun n => (Lit.int k n).wf = true) := by
  intro H enc base spare held fuel cs y h _
  obtain ⟨n, rfl, _, hw⟩ := DataW.trod_int ht h
  exact ⟨n, rfl, hw⟩
theorem opens_string (ht : P.underlying t = some .string) : Opens P W t Kd.string (fun s => s.size ≤ maxLen) := by
  intro H enc base spare held fuel cs y h _
  obtain ⟨n, rfl, _, hw⟩ := DataW.trod_string ht h
  exact ⟨n, rfl, hw⟩
theorem opens_C (hc : P.cellsOf e = d.sz) (h0 : 0 < d.sz) (h : Opens P W e d Q) {H : Type} {enc : TypeId × Value → H} {base : Nat} {spare : Nat → Bool} {held : Bool} {p : List MemPlace} {dd : DataW H} (ht : P.underlying t = some (.slice e)) {v : Value} (ht2 : DataW.Trod enc P W base spare held t v dd p) (hv : ∃ a l c, v = .slice a l c) :
    ∃ (xs : List α) (A : Option Addr) (c : Nat), v = .slice A xs.length c ∧ xs.length ≤ c ∧ d.C W A xs.length xs ∧ ∀ x ∈ xs, Q x := by
  obtain ⟨n, cells, hS, hel⟩ := sl_of_trod ht hc h0 ht2 hv
  have hx : ∀ i, i < n → ∃ x, d.K W x ((cells.drop (i * d.sz)).take d.sz) ∧ Q x := by
    intro i hi
    obtain ⟨f, y, hy⟩ := hel i hi
    refine h enc base spare held f _ y hy ?_
    have hle : i * d.sz + d.sz ≤ n * d.sz := by rw [← Nat.succ_mul]; exact Nat.mul_le_mul_right _ hi
    rw [List.length_take, List.length_drop, hS.1]
    omega
  have hxs : ∀ m, m ≤ n → ∃ xs : List α, xs.length = m ∧ ∀ i x, xs[i]? = some x → d.K W x ((cells.drop (i * d.sz)).take d.sz) ∧ Q x := by
    intro m
    induction m with
    | zero => exact fun _ => ⟨[], rfl, fun i x hx => by simp at hx⟩
    | succ m ih =>
      intro hm
      obtain ⟨xs, hl, hq⟩ := ih (by omega)
      obtain ⟨x, hk, hqx⟩ := hx m (by omega)
      refine ⟨xs ++ [x], by simp [hl], fun i y hy => ?_⟩
      rcases Nat.lt_or_ge i xs.length with hi | hi
      · rw [List.getElem?_append_left hi] at hy
        exact hq i y hy
      · rw [List.getElem?_append_right hi] at hy
        obtain ⟨h1, h2⟩ := List.getElem?_eq_some_iff.1 hy
        have hi2 : i = m := by simp at h1; omega
        subst hi2
        simp at h2
        subst h2
        exact ⟨hk, hqx⟩
  obtain ⟨xs, hl, hq⟩ := hxs n (Nat.le_refl _)
  obtain ⟨a, c, hv2, hnc, hnm⟩ := hS.form
  subst hv2
  subst hl
  refine ⟨xs, a, c, rfl, hnc, ⟨rfl, by unfold maxLen at hnm; omega, fun hp => ?_⟩, fun x hx => ?_⟩
  · obtain ⟨b, o, rfl, _, hcell⟩ := hS.at hp
    refine ⟨_, rfl, fun j p hj => ⟨_, ?_, (hq j p hj).1, fun i u hu => ?_⟩⟩
    · exact d.K_len (hq j p hj).1
    · rw [List.getElem?_take] at hu
      split at hu
      · rw [List.getElem?_drop] at hu
        rw [add_off]
        exact hcell _ _ hu
      · cases hu
  · obtain ⟨i, hi, rfl⟩ := List.mem_iff_getElem.1 hx
    exact (hq i _ (List.getElem?_eq_getElem hi)).2
theorem opens_slice (ht : P.underlying t = some (.slice e)) (hc : P.cellsOf e = d.sz) (h0 : 0 < d.sz) (h : Opens P W e d Q) : Opens P W t (Kd.slice e d) (fun xs => ∀ x ∈ xs, Q x) := by
  intro H enc base spare held fuel cs y hy hl
  obtain ⟨u, rfl⟩ : ∃ u, cs = [u] := by
    match cs, hl with
    | [u], _ => exact ⟨u, rfl⟩
  obtain ⟨hv, h2⟩ := slice_of_trod ht hy
  obtain ⟨xs, A, c, rfl, h3, h4, h5⟩ := opens_C hc h0 h ht h2 hv
  exact ⟨xs, ⟨A, c, rfl, h3, h4⟩, h5⟩
theorem opensL_one {f : Field} (h : Opens P W f.type d Q) (hc : P.cellsOf f.type = d.sz) : OpensL P W [f] f.offset d Q := by
  intro H enc base spare held cs hf hl
  obtain ⟨fuel, y, hy⟩ := hf 0 f rfl
  rw [Nat.sub_self, List.drop_zero, hc, List.take_of_length_le (by omega)] at hy
  exact h enc base spare held fuel cs y hy hl
theorem opensL_cons {f : Field} {fs : List Field} {b : Kd β} {Qb : β → Prop} (h : Opens P W f.type d Q) (hc : P.cellsOf f.type = d.sz) (hs : OpensL P W fs (f.offset + d.sz) b Qb) (ho : (fs.all fun g => decide (f.offset + d.sz ≤ g.offset)) = true) :
    OpensL P W (f :: fs) f.offset (Kd.pair d b) (fun x => Q x.1 ∧ Qb x.2) := by
  intro H enc base spare held cs hf hl
  have hl' : cs.length = d.sz + b.sz := hl
  obtain ⟨fuel, y, hy⟩ := hf 0 f rfl
  rw [Nat.sub_self, List.drop_zero, hc] at hy
  obtain ⟨x, hk, hq⟩ := h enc base spare held fuel _ y hy (by rw [List.length_take]; omega)
  obtain ⟨z, hkz, hqz⟩ := hs enc base spare held (cs.drop d.sz) (fun j g hg => by
    obtain ⟨fuel, y, hy⟩ := hf (j + 1) g (by simpa using hg)
    have hog : f.offset + d.sz ≤ g.offset := by simpa using List.all_eq_true.1 ho g (List.mem_of_getElem? hg)
    refine ⟨fuel, y, ?_⟩
    rw [List.drop_drop, show d.sz + (g.offset - (f.offset + d.sz)) = g.offset - f.offset by omega]
    exact hy) (by rw [List.length_drop]; omega)
  exact ⟨(x, z), ⟨_, _, (List.take_append_drop d.sz cs).symm, hk, hkz⟩, hq, hqz⟩
theorem opens_struct {fs : Array Field} (ht : P.underlying t = some (.struct fs)) (h : OpensL P W fs.toList 0 d Q) : Opens P W t d Q := by
  intro H enc base spare held fuel cs y hy hl
  obtain ⟨xs, n, _, _, _, hlx, hx⟩ := DataW.trod_struct ht hy
  refine h enc base spare held cs (fun j f hf => ?_) hl
  have hf' : fs[j]? = some f := by simpa using hf
  have h1 := hx j f hf'
  have hj : j < xs.length := by rw [hlx]; exact (Array.getElem?_eq_some_iff.1 hf').1
  rw [List.getElem?_eq_getElem hj] at h1
  exact ⟨n, _, h1⟩
theorem opens_iso {f : β → α} {g : α → β} (hfg : ∀ x, f (g x) = x) (h : Opens P W t d Q) : Opens P W t (Kd.iso d f) (fun y => Q (f y)) := by
  intro H enc base spare held fuel cs y hy hl
  obtain ⟨x, hk, hq⟩ := h enc base spare held fuel cs y hy hl
  exact ⟨g x, (by show d.K W (f (g x)) cs; rw [hfg]; exact hk), (by show Q (f (g x)); rw [hfg]; exact hq)⟩
theorem Opens.imp {Q' : α → Prop} (h : Opens P W t d Q) (hq : ∀ x, Q x → Q' x) : Opens P W t d Q' := by
  intro H enc base spare held fuel cs y hy hl
  obtain ⟨x, hk, hx⟩ := h enc base spare held fuel cs y hy hl
  exact ⟨x, hk, hq x hx⟩
theorem arg_struct (h : Opens P W t d Q) {fs : Array Field} (hc : P.cellsOf t = d.sz) {H : Type} {enc : TypeId × Value → H} {r : Reach} {base bb : Nat} {spare : Nat → Bool} {held : Bool} {p : List MemPlace} {dd : DataW H} (ht : P.underlying t = some (.struct fs)) {v : Value} (hv : Value.okWide P W r bb t v) (h2 : DataW.Trod enc P W base spare held t v dd p) :
    ∃ x : α, (∃ cs : List Value, v = .agg cs.toArray ∧ d.K W x cs) ∧ Q x := by
  obtain ⟨cs, rfl, hsz⟩ := okWide_struct ht hv
  obtain ⟨fuel, hf⟩ := h2
  obtain ⟨x, hk, hq⟩ := h enc base spare held fuel cs.toList _ hf (by simpa [hc] using hsz)
  exact ⟨x, ⟨cs.toList, by simp, hk⟩, hq⟩
end
end Go.Proofs.Ytndgollcganhmaa
namespace Go.Proofs.YtndgollcganhmaaQ.P
open Go.RowKit Go.ChangeShapes Go.WideShapes Go.ChangeAt Go.Proofs.YtndgollcganhmaaW.PrintWords Go.Proofs.Ytndgollcganhmaa
theorem opensLab (W : World) : Opens Try.prog W 41 k41 (fun x => x.f0.size ≤ maxLen ∧ x.f1.size ≤ maxLen) :=
  opens_iso (g := fun x => ⟨x.1, x.2⟩) (fun _ => rfl) (opens_struct Try.underlying41 (opensL_cons (opens_string Try.underlying9) (by kernel_rfl) (opensL_one (opens_string Try.underlying9) (by kernel_rfl)) (by rfl)))
section
variable {W : World} {H : Type} {enc : TypeId × Value → H} {r : Reach} {base bb : Nat} {spare : Nat → Bool} {held : Bool} {p : List MemPlace} {dd : DataW H} {v : Value}
end
end Go.Proofs.YtndgollcganhmaaQ.P
namespace Go.Proofs.YtndgollcganhmaaQ.P
open Go.RowKit Go.ChangeShapes Go.WideShapes Go.ChangeAt Go.Proofs.YtndgollcganhmaaW.PrintWords Go.Proofs.Ytndgollcganhmaa
theorem opensMat (W : World) : Opens Try.prog W 35 k35 (fun x => (Lit.int .i64 x.f0).wf = true ∧ x.f1.size ≤ maxLen ∧ x.f2.size ≤ maxLen) :=
  opens_iso (g := fun x => ⟨x.1, x.2.1, x.2.2⟩) (fun _ => rfl) (opens_struct Try.underlying35 (opensL_cons (opens_int Try.underlying3) (by kernel_rfl) (opensL_cons (opens_string Try.underlying9) (by kernel_rfl) (opensL_one (opens_string Try.underlying9) (by kernel_rfl)) (by rfl)) (by rfl)))
section
variable {W : World} {H : Type} {enc : TypeId × Value → H} {r : Reach} {base bb : Nat} {spare : Nat → Bool} {held : Bool} {p : List MemPlace} {dd : DataW H} {v : Value}
end
end Go.Proofs.YtndgollcganhmaaQ.P
namespace Go.Proofs.YtndgollcganhmaaQ.P
open Go.RowKit Go.ChangeShapes Go.WideShapes Go.ChangeAt Go.Proofs.YtndgollcganhmaaW.PrintWords Go.Proofs.Ytndgollcganhmaa
section
variable {W : World} {H : Type} {enc : TypeId × Value → H} {r : Reach} {base bb : Nat} {spare : Nat → Bool} {held : Bool} {p : List MemPlace} {dd : DataW H} {v : Value}
def kDuty : Kd (List S41 × Int × Int × Int × Int × Int) := Kd.pair (Kd.slice 41 k41) (Kd.pair (Kd.int .i64) (Kd.pair (Kd.int .i64) (Kd.pair (Kd.int .i64) (Kd.pair (Kd.int .i64) (Kd.int .i64)))))
def kHush : Kd (Int × Int × List S35) := Kd.pair (Kd.int .i64) (Kd.pair (Kd.int .i64) (Kd.slice 35 k35))
theorem opensLabs (W : World) : Opens Try.prog W 22 (Kd.slice 41 k41) (fun xs => ∀ x ∈ xs, x.f0.size ≤ maxLen ∧ x.f1.size ≤ maxLen) := opens_slice Try.underlying22 (by kernel_rfl) (by decide) (opensLab W)
theorem opensMats (W : World) : Opens Try.prog W 23 (Kd.slice 35 k35) (fun xs => ∀ x ∈ xs, (Lit.int .i64 x.f0).wf = true ∧ x.f1.size ≤ maxLen ∧ x.f2.size ≤ maxLen) := opens_slice Try.underlying23 (by kernel_rfl) (by decide) (opensMat W)
theorem anyO {P : Program} {W : World} {t : TypeId} {α : Type} {d : Kd α} {Q : α → Prop} (h : Opens P W t d Q) : Opens P W t d (fun _ => True) := h.imp fun _ _ => trivial
theorem opensI (W : World) : Opens Try.prog W 3 (Kd.int .i64) (fun _ => True) := anyO (opens_int Try.underlying3)
theorem opensDuty (W : World) : Opens Try.prog W 46 kDuty (fun _ => True) :=
  anyO (opens_struct Try.underlying46 (opensL_cons (opensLabs W) (by kernel_rfl) (opensL_cons (opensI W) (by kernel_rfl) (opensL_cons (opensI W) (by kernel_rfl) (opensL_cons (opensI W) (by kernel_rfl) (opensL_cons (opensI W) (by kernel_rfl) (opensL_one (opensI W) (by kernel_rfl)) (by rfl)) (by rfl)) (by rfl)) (by rfl)) (by rfl)))
theorem opensHush (W : World) : Opens Try.prog W 48 kHush (fun _ => True) :=
  anyO (opens_struct Try.underlying48 (opensL_cons (opensI W) (by kernel_rfl) (opensL_cons (opensI W) (by kernel_rfl) (opensL_one (opensMats W) (by kernel_rfl)) (by rfl)) (by rfl)))
theorem opensRec (W : World) : Opens Try.prog W 50 (Kd.pair (Kd.int .i64) (Kd.pair kDuty (Kd.pair (Kd.slice 41 k41) kHush))) (fun _ => True) :=
  anyO (opens_struct Try.underlying50 (opensL_cons (opensI W) (by kernel_rfl) (opensL_cons (opensDuty W) (by kernel_rfl) (opensL_cons (opensLabs W) (by kernel_rfl) (opensL_one (opensHush W) (by kernel_rfl)) (by rfl)) (by rfl)) (by rfl)))
set_option maxRecDepth 100000 in
theorem argRec (hv : Value.okWide Try.prog W r bb 50 v) (h2 : DataW.Trod enc Try.prog W base spare held 50 v dd p) :
    ∃ x : Rc, RecR v W x := by
  obtain ⟨⟨a0, ⟨l1, a2, a3, a4, a5, a6⟩, l7, a8, a9, l10⟩, ⟨cs, rfl, hk⟩, _⟩ := arg_struct (opensRec W) (by kernel_rfl) Try.underlying50 hv h2
  obtain ⟨_, _, rfl, rfl, _, _, rfl, ⟨_, _, rfl, ⟨A1, c1, rfl, h1, k1⟩, _, _, rfl, rfl, _, _, rfl, rfl, _, _, rfl, rfl, _, _, rfl, rfl, rfl⟩, _, _, rfl, ⟨A7, c7, rfl, h7, k7⟩, _, _, rfl, rfl, _, _, rfl, rfl, A10, c10, rfl, h10, k10⟩ := hk
  have e : ∀ xs : List S41, (xs.map toLab).map ofLab = xs := fun xs => by simp [Function.comp_def, of_to_lab]
  have e2 : ∀ xs : List S35, (xs.map toMat).map ofMat = xs := fun xs => by simp [Function.comp_def, of_to_mat]
  refine ⟨⟨a0, l1.map toLab, a2, a3, a4, a5, a6, l7.map toLab, a8, a9, l10.map toMat⟩, ?_⟩
  unfold RecR
  simp only [e, e2]
  exact ⟨A1, c1, A7, c7, A10, c10, rfl, h1, k1, h7, k7, h10, k10⟩
end
end Go.Proofs.YtndgollcganhmaaQ.P
namespace Go.Proofs.Ytndgollcganhmaa.codeApart
open Go.ChangeShapes Go.WideShapes Go.ChangeAt Go.RowKit Go.Proofs.YtndgollcganhmaaQ.P
open Go.ChangeMaps (open_string shut_string)
theorem own : ownKnob Try.prog.godebug = none := by kernel_rfl
theorem laidOut : laidOutB Try.prog = true := by kernel_rfl
set_option maxRecDepth 100000 in
theorem lifted (os : Os) (started : os.Started) (H : Type) (enc : TypeId × Value → H) :
    ReturnsInHanded {} Try.checked os 9 .any (Rows.codeApartSpec.pre6 enc Try.prog Try.f9 Rows.codeApartRow.domain false) (Rows.codeApartSpec.post enc Try.prog Try.f9 false true false false) := by
  refine returnsInHanded_of_change (C := Try.checked) own started (by kernel_rfl) Try.func9
    (ChangeSpec.witness6 (enc := enc) (C := Try.checked) false ⟨#[], #[.agg #[.int .i64 0, .slice none 0 0, .int .i64 0, .int .i64 0, .int .i64 0, .int .i64 0, .int .i64 0, .slice none 0 0, .int .i64 0, .int .i64 0, .slice none 0 0], .agg #[.int .i64 0, .slice none 0 0, .int .i64 0, .int .i64 0, .int .i64 0, .int .i64 0, .int .i64 0, .slice none 0 0, .int .i64 0, .int .i64 0, .slice none 0 0]], []⟩ 8 (by kernel_rfl) (by kernel_rfl) (by kernel_rfl) (by kernel_rfl)) ?_
  intro W base args ds gs before hval0 hW hcnd _
  have hval : ∀ (j : Nat) t v, Try.f9.params[j]? = some t → args[j]? = some v → Value.okWide Try.prog W .any base t v := hval0
  have hW' := hW
  obtain ⟨p, q, hA0, hV, rfl, hfz, hnd⟩ := hW
  have hA : DataW.TrodAll enc Try.prog W 0 (fun _ => true) true Try.f9.params.toList args.toList ds p := hA0
  rw [Try.params9] at hA hval
  obtain ⟨v0, vs0, d0, ds0, p0, q0, hargs, rfl, rfl, h0, r0⟩ := trodAll_cons hA
  obtain ⟨v1, vs1, d1, ds1, p1, q1, rfl, rfl, rfl, h1, r1⟩ := trodAll_cons r0
  obtain ⟨rfl, rfl, rfl⟩ := trodAll_nil r1
  obtain rfl : args = #[v0, v1] := by cases args; simp_all
  obtain ⟨rfl, rfl⟩ := trodVars_none hV
  have lt0 : ∀ x ∈ p0, x.block < W.heap.size := by obtain ⟨m, hm⟩ := h0; exact DataW.trod_lt m _ _ _ hm
  have k0 := h0
  have lt1 : ∀ x ∈ p1, x.block < W.heap.size := by obtain ⟨m, hm⟩ := h1; exact DataW.trod_lt m _ _ _ hm
  have k1 := h1
  obtain ⟨a0, w0⟩ := argRec (hval 0 50 v0 rfl rfl) h0
  obtain ⟨a1, w1⟩ := argRec (hval 1 50 v1 rfl rfl) h1
  clear hA0 hval0
  refine (CodeApart_walk v0 a0 v1 a1 W w0 w1).mono fun e W' ⟨he, bel⟩ => ?_
  subst he
  exact ⟨_, rfl, _, _, _, [], _, [], hW', trodAll_mk1 (shut_bool Try.underlying4 _), (trodAll_cons_mk (Below.trod laidOut (by kernel_rfl) (of_decide_eq_true (by kernel_rfl)) k0 bel lt0) (trodAll_cons_mk (Below.trod laidOut (by kernel_rfl) (of_decide_eq_true (by kernel_rfl)) k1 bel lt1) trodAll_mk0)), rfl, bel.frame _, fun h => by cases h⟩
theorem over : Rows.codeApartRow.holds Try.pinned (OpenSpec.ofChange Rows.codeApartSpec) :=
  OpenClaim.holds_of_wide 9 Try.f9 rfl rfl rfl rfl rfl rfl rfl ⟨rfl, rfl, rfl, rfl, rfl⟩ rfl rfl rfl rfl rfl (by kernel_rfl) Try.func9 (by kernel_rfl)
    (of_decide_eq_true (by kernel_rfl)) (by unfold Func.isWrapper; first | (rw [if_pos (by decide +kernel)]; kernel_rfl) | (rw [if_neg (by decide +kernel)]; exact ⟨rfl, rfl⟩))
    (fun os started H enc _ => lifted os started H enc)
end Go.Proofs.Ytndgollcganhmaa.codeApart
namespace Go.Proofs.Ytndgollcganhmaa
theorem codeApart_holds : Rows.CodeApartSaid := codeApart.over
#print axioms codeApart_holds
end Go.Proofs.Ytndgollcganhmaa
