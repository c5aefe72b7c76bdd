/- The statement 'CodeGets': for every input the law returns true, and each argument reads behind the call as it read before. No condition. -/
import Derived.Deep.RegionHeld3
import Derived.WideShapes
import Derived.Test.YtndgollcganhmaaRows
import Derived.WalkKit
import Derived.ProofKit
import Derived.OpenShut
import Derived.ShutString
import Derived.Below
import Derived.Carry
import Derived.Test.YtndgollcganhmaaCodeGetsz1
import Derived.Test.YtndgollcganhmaaCodeGetsz2
import Derived.Test.YtndgollcganhmaaCodeGetsz3
import Derived.Test.YtndgollcganhmaaCodeGetsz4
set_option linter.unusedVariables false
set_option linter.unusedSimpArgs false
namespace Go.Proofs.YtndgollcganhmaaQ.P
open Go.RowKit Go.Proofs.YtndgollcganhmaaW.PrintWords Go.Proofs.Ytndgollcganhmaa
def numsB (rt pl tr : Int) : Bool := decide (0 ≤ rt) && decide (rt < 4) && decide (0 ≤ pl) && decide (pl < 4) && decide (0 ≤ tr) && decide (tr ≤ 99)
def dutyB (r : Rc) : Bool := numsB r.rt r.pl r.tr && labsB r.l1 && tickB r.due && decide (1 ≤ r.st) && decide (r.st ≤ 3)
def noDutyB (r : Rc) : Bool := decide (r.l1 = []) && decide (r.rt = 0) && decide (r.pl = 0) && decide (r.tr = 0) && decide (r.due = 0) && decide (r.st = 0)
def noHushB (r : Rc) : Bool := decide (r.fr = 0) && decide (r.tt = 0) && decide (r.l10 = [])
def Rc.okB (r : Rc) : Bool :=
  if r.k = 1 then dutyB r && decide (r.l7 = []) && noHushB r else if r.k = 2 then labsB r.l7 && noDutyB r && noHushB r else if r.k = 3 then hushB r.fr r.tt r.l10 && noDutyB r && decide (r.l7 = []) else false
def Rc.sz (r : Rc) : Prop := LabsOk r.l1 ∧ LabsOk r.l7 ∧ MatsOk r.l10
theorem labsOkB_of {l : List Lab} (h : LabsOk l) : labsOkB (l.map ofLab) = true := by
  simp only [labsOkB, List.all_eq_true, List.mem_map]
  rintro x ⟨y, hy, rfl⟩
  have := h y hy
  simp only [labOkB, ofLab, Bool.and_eq_true, decide_eq_true_eq]
  exact ⟨decide_eq_true this.1, decide_eq_true this.2⟩
theorem matsOkB_of {l : List Mat} (h : MatsOk l) : matsOkB (l.map ofMat) = true := by
  simp only [matsOkB, List.all_eq_true, List.mem_map]
  rintro x ⟨y, hy, rfl⟩
  have := h y hy
  simp only [matOkB, ofMat, Bool.and_eq_true, decide_eq_true_eq]
  exact ⟨decide_eq_true this.1, decide_eq_true this.2⟩
theorem labRight_f {l : List Lab} (h : LabsOk l) : label_Right.f (l.map ofLab) = some (labsB l) := by
  unfold label_Right.f
  rw [if_pos (labsOkB_of h), labs_to_of]
theorem isHush_f {f t : Int} {l : List Mat} (h : MatsOk l) : wire_isHush.f f t (l.map ofMat) = some (hushB f t l) := by
  unfold wire_isHush.f
  rw [if_pos (matsOkB_of h)]
  congr 2
  simp [Function.comp_def, to_of_mat]
theorem noDuty_f (r : Rc) : code_noDuty.f (r.l1.map ofLab) r.rt r.pl r.tr r.due r.st = some (noDutyB r) := by
  unfold code_noDuty.f noDutyB
  have h0 : (((r.l1.map ofLab).length : Int) = 0) = (r.l1 = []) := by simp
  simp only [h0]
  by_cases h1 : r.l1 = [] <;> by_cases h2 : r.rt = 0 <;> by_cases h3 : r.pl = 0 <;> by_cases h4 : r.tr = 0 <;> by_cases h5 : r.due = 0 <;> simp [h1, h2, h3, h4, h5]
  all_goals rw [Bool.eq_iff_iff]; simp
theorem noHush_f (r : Rc) : code_noHush.f r.fr r.tt (r.l10.map ofMat) = some (noHushB r) := by
  unfold code_noHush.f noHushB
  have h0 : (((r.l10.map ofMat).length : Int) == 0) = decide (r.l10 = []) := by rw [Bool.eq_iff_iff]; simp
  simp only [h0]
  by_cases h1 : r.fr = 0 <;> by_cases h2 : r.tt = 0 <;> simp [h1, h2]
theorem tick_f (t : Int) : tick_Right.f t = some (tickB t) := by
  unfold tick_Right.f tickB
  by_cases h : 0 ≤ t <;> simp [h]
theorem isDuty_f {r : Rc} (h : LabsOk r.l1) : code_isDuty.f (r.l1.map ofLab) r.rt r.pl r.tr r.due r.st = some (dutyB r) := by
  unfold code_isDuty.f dutyB numsB
  simp only [labRight_f h, tick_f, Option.bind_some, ge_iff_le]
  by_cases h1 : 0 ≤ r.rt <;> by_cases h2 : r.rt < 4 <;> by_cases h3 : 0 ≤ r.pl <;> by_cases h4 : r.pl < 4 <;> by_cases h5 : 0 ≤ r.tr <;> by_cases h6 : r.tr ≤ 99 <;> simp [h1, h2, h3, h4, h5, h6]
  cases labsB r.l1 <;> cases tickB r.due <;> by_cases h7 : 1 ≤ r.st <;> simp [h7]
theorem right_f {r : Rc} (h : r.sz) : r.right = some r.okB := by
  obtain ⟨h1, h2, h3⟩ := h
  have hw : wire_Right.f 2 [] r.fr r.tt (r.l10.map ofMat) = some (hushB r.fr r.tt r.l10) := by
    unfold wire_Right.f
    simp [isHush_f h3]
  have h7 : (((r.l7.map ofLab).length : Int) = 0) = (r.l7 = []) := by simp
  have h8 : (((r.l7.map ofLab).length : Int) == 0) = decide (r.l7 = []) := by rw [Bool.eq_iff_iff]; simp
  unfold Rc.right code_Right.f Rc.okB
  simp only [isDuty_f h1, noHush_f, noDuty_f, labRight_f h2, hw, Option.bind_some, h7, h8]
  by_cases e1 : r.k = 1
  · simp only [e1, if_true]
    cases dutyB r <;> by_cases e : r.l7 = [] <;> simp [e]
  · by_cases e2 : r.k = 2
    · simp only [e2, if_true]
      cases labsB r.l7 <;> cases noDutyB r <;> simp
    · by_cases e3 : r.k = 3
      · simp only [e3, if_true]
        cases hushB r.fr r.tt r.l10 <;> cases noDutyB r <;> simp
      · simp [e1, e2, e3]
theorem labsB_few {l : List Lab} (h : labsB l = true) : l.length ≤ 3 ∧ 1 ≤ l.length ∧ ∀ x ∈ l, x.name.size ≤ 8 ∧ x.value.size ≤ 8 := by
  simp only [labsB, eachB, Bool.and_eq_true, decide_eq_true_eq, Bool.not_eq_true', List.any_eq_false] at h
  refine ⟨h.2.1.2, h.2.1.1, fun x hx => ?_⟩
  have := h.2.2 x hx
  simp only [labB, nameB, valB, Bool.not_eq_true', Bool.not_eq_false, Bool.and_eq_true, decide_eq_true_eq] at this
  exact ⟨this.1.2, this.2.2⟩
theorem labsB_fewL {l : List Lab} (h : labsB l = true) : fewL l = true := by
  obtain ⟨h1, _, h2⟩ := labsB_few h
  simp only [fewL, Bool.and_eq_true, decide_eq_true_eq, List.all_eq_true]
  exact ⟨by omega, fun x hx => by have := h2 x hx; omega⟩
theorem hushB_few {f t : Int} {l : List Mat} (h : hushB f t l = true) : tickB f = true ∧ tickB t = true ∧ f < t ∧ 1 ≤ l.length ∧ l.length ≤ 4 ∧ ∀ x ∈ l, matB x = true := by
  simp only [hushB, Bool.and_eq_true, decide_eq_true_eq, Bool.not_eq_true', List.any_eq_false] at h
  exact ⟨h.1.1.1.1.1, h.1.1.1.1.2, h.1.1.1.2, h.1.1.2, h.1.2, fun x hx => by simpa using h.2 x hx⟩
theorem matB_few {x : Mat} (h : matB x = true) : 0 ≤ x.kind ∧ x.kind ≤ 3 ∧ x.name.size ≤ 8 ∧ x.value.size ≤ 8 := by
  simp only [matB, nameB, valB, Bool.and_eq_true, decide_eq_true_eq] at h
  exact ⟨h.1.1.1.1, h.1.1.1.2, h.1.1.2.2, h.1.2.2⟩
theorem hushB_fewM {f t : Int} {l : List Mat} (h : hushB f t l = true) : fewM l = true := by
  obtain ⟨_, _, _, _, h1, h2⟩ := hushB_few h
  simp only [fewM, Bool.and_eq_true, decide_eq_true_eq, List.all_eq_true]
  exact ⟨by omega, fun x hx => by have := matB_few (h2 x hx); omega⟩
def Rc.bytes (r : Rc) : List UInt8 := putW r.k r.l1 r.rt r.pl r.tr r.due r.st r.l7 r.fr r.tt r.l10
def Rc.put (r : Rc) : Option (ByteArray × Int) := code_Put.f r.k (r.l1.map ofLab) r.rt r.pl r.tr r.due r.st (r.l7.map ofLab) r.fr r.tt (r.l10.map ofMat)
theorem mats_to_of (xs : List Mat) : (xs.map ofMat).map toMat = xs := by simp [Function.comp_def, to_of_mat]
theorem put_ok {r : Rc} (h : r.sz) (ho : r.okB = true) : r.put = some (⟨r.bytes.toArray⟩, 0) := by
  have hr := right_f h
  unfold Rc.right at hr
  unfold Rc.put code_Put.f
  rw [hr, ho]
  simp only [Option.bind_some, if_true]
  have hp : code_put.f r.k (r.l1.map ofLab) r.rt r.pl r.tr r.due r.st (r.l7.map ofLab) r.fr r.tt (r.l10.map ofMat) = some ⟨r.bytes.toArray⟩ := by
    unfold code_put.f
    simp only [labs_to_of, mats_to_of]
    rw [if_pos]
    · rfl
    · unfold Rc.okB at ho
      by_cases e1 : r.k = 1
      · rw [if_pos e1] at ho ⊢
        simp only [dutyB, Bool.and_eq_true] at ho ⊢
        exact ⟨labsB_fewL ho.1.1.1.1.1.2, ho.1.1.1.1.2⟩
      · rw [if_neg e1] at ho ⊢
        by_cases e2 : r.k = 2
        · rw [if_pos e2] at ho ⊢
          simp only [Bool.and_eq_true] at ho
          exact labsB_fewL ho.1.1
        · rw [if_neg e2] at ho ⊢
          by_cases e3 : r.k = 3
          · rw [if_pos e3] at ho
            simp only [Bool.and_eq_true] at ho ⊢
            exact ⟨hushB_fewM ho.1.1, (hushB_few ho.1.1).1, (hushB_few ho.1.1).2.1⟩
          · rw [if_neg e3] at ho
            cases ho
  rw [hp]
  rfl
end Go.Proofs.YtndgollcganhmaaQ.P
namespace Go.Proofs.Ytndgollcganhmaa
open Go.RowKit
theorem u8_tn (x : Int) : (u8 x).toNat = (x % 256).toNat := by
  unfold u8
  rw [UInt8.toNat_ofNat']
  omega
theorem u8_nat {n : Nat} (h : n < 256) : (u8 (n : Int)).toNat = n := by
  rw [u8_tn]
  omega
theorem u8_of (c : UInt8) : u8 ((c.toNat : Nat) : Int) = c := by
  apply UInt8.toNat_inj.1
  rw [u8_tn]
  have := c.toNat_lt
  omega
theorem numF_u8 {n : Nat} (h : n < 256) (t : List UInt8) (b : Bool) : numF (u8 (n : Int) :: t, b) = (n, (t, b)) := by
  simp only [numF, u8_nat h]
theorem numF_u8i {n : Int} (h0 : 0 ≤ n) (h : n < 256) (t : List UInt8) (b : Bool) : numF (u8 n :: t, b) = (n.toNat, (t, b)) := by
  obtain ⟨m, rfl⟩ := Int.eq_ofNat_of_zero_le h0
  rw [numF_u8 (by omega)]
  simp
theorem takeF_app (x t : List UInt8) (b : Bool) : takeF x.length (x ++ t, b) = (x, (t, b)) := by
  unfold takeF
  rw [if_neg (by simp)]
  simp
theorem textF_app {s : ByteArray} (h : s.size < 256) (t : List UInt8) (b : Bool) : textF (textB s ++ t, b) = (s.data.toList, (t, b)) := by
  unfold textF textB
  rw [List.cons_append, numF_u8 h]
  rw [show s.size = s.data.toList.length from (len_data s).symm, takeF_app]
theorem timeF_app {t : Int} (h0 : 0 ≤ t) (h1 : t ≤ 1099511627776) (r : List UInt8) (b : Bool) : timeF 6 0 (sixB t ++ r, b) = (t.toNat, (r, b)) := by
  obtain ⟨m, rfl⟩ := Int.eq_ofNat_of_zero_le h0
  simp only [sixB, List.cons_append, List.nil_append, timeF, numF, u8_tn]
  refine Prod.ext ?_ rfl
  show _ = m
  simp only
  omega
theorem labF_app {x : Lab} (h1 : x.name.size < 256) (h2 : x.value.size < 256) (t : List UInt8) (b : Bool) : labF (labT2 x ++ t, b) = (x, (t, b)) := by
  unfold labF labT2
  rw [List.append_assoc, textF_app h1, textF_app h2]
  simp only [tx_of]
theorem labsF_app : ∀ (xs acc : List Lab) (t : List UInt8), (∀ x ∈ xs, x.name.size < 256 ∧ x.value.size < 256) → labsF xs.length acc (xs.flatMap labT2 ++ t, false) = (acc ++ xs, (t, false))
  | [], acc, t, _ => by simp [labsF]
  | x :: xs, acc, t, h => by
    have hx := h x (by simp)
    rw [List.length_cons, labsF, if_neg (by simp), List.flatMap_cons, List.append_assoc, labF_app hx.1 hx.2, labsF_app xs _ t fun y hy => h y (by simp [hy])]
    simp
theorem matF_app {m : Mat} (h0 : 0 ≤ m.kind) (h3 : m.kind < 256) (h1 : m.name.size < 256) (h2 : m.value.size < 256) (t : List UInt8) (b : Bool) : matF (matT2 m ++ t, b) = (m, (t, b)) := by
  unfold matF matT2
  rw [List.cons_append, List.append_assoc, numF_u8i h0 h3, textF_app h1, textF_app h2]
  simp only [tx_of]
  rw [Int.toNat_of_nonneg h0]
theorem matsF_app : ∀ (xs acc : List Mat) (t : List UInt8), (∀ x ∈ xs, 0 ≤ x.kind ∧ x.kind < 256 ∧ x.name.size < 256 ∧ x.value.size < 256) → matsF xs.length acc (xs.flatMap matT2 ++ t, false) = (acc ++ xs, (t, false))
  | [], acc, t, _ => by simp [matsF]
  | x :: xs, acc, t, h => by
    have hx := h x (by simp)
    rw [List.length_cons, matsF, if_neg (by simp), List.flatMap_cons, List.append_assoc, matF_app hx.1 hx.2.1 hx.2.2.1 hx.2.2.2, matsF_app xs _ t fun y hy => h y (by simp [hy])]
    simp
theorem numF_back {r : Rst} (h : (numF r).2.2 = false) : r.1 = u8 ((numF r).1 : Int) :: (numF r).2.1 ∧ r.2 = false := by
  obtain ⟨l, b⟩ := r
  cases l with
  | nil => cases h
  | cons c t => exact ⟨by simp only [numF, u8_of], h⟩
theorem takeF_back {n : Nat} {r : Rst} (h : (takeF n r).2.2 = false) : r.1 = (takeF n r).1 ++ (takeF n r).2.1 ∧ r.2 = false := by
  unfold takeF at h ⊢
  split at h
  · cases h
  · rename_i hn
    rw [if_neg hn]
    exact ⟨by simp, h⟩
theorem textF_back {r : Rst} (h : (textF r).2.2 = false) : r.1 = textB (tx (textF r).1) ++ (textF r).2.1 ∧ r.2 = false ∧ (textF r).1.length < 256 := by
  unfold textF at h ⊢
  have h1 := takeF_back h
  have h2 := numF_back h1.2
  have h3 := takeF_len (numF r).1 (numF r).2
  have h4 := numF_le r
  refine ⟨?_, h2.2, by omega⟩
  rw [textB, tx_size, tx_data, h3, List.cons_append, ← h1.1, ← h2.1]
theorem labF_back {r : Rst} (h : (labF r).2.2 = false) : r.1 = labT2 (labF r).1 ++ (labF r).2.1 ∧ r.2 = false := by
  unfold labF at h ⊢
  have h1 := textF_back h
  have h2 := textF_back h1.2.1
  refine ⟨?_, h2.2.1⟩
  simp only [labT2]
  rw [List.append_assoc, ← h1.1, ← h2.1]
theorem labsF_back : ∀ (n : Nat) (acc : List Lab) (r : Rst), (labsF n acc r).2.2 = false → ∃ ys : List Lab, (labsF n acc r).1 = acc ++ ys ∧ ys.length = n ∧ r.1 = ys.flatMap labT2 ++ (labsF n acc r).2.1 ∧ r.2 = false
  | 0, acc, r, h => ⟨[], by simp [labsF], rfl, by simp [labsF], h⟩
  | n + 1, acc, r, h => by
    rw [labsF] at h ⊢
    split at h
    · rename_i hr
      rw [hr] at h
      cases h
    · rename_i hr
      rw [if_neg hr]
      obtain ⟨ys, h1, h2, h3, h4⟩ := labsF_back n _ _ h
      have h5 := labF_back h4
      refine ⟨(labF r).1 :: ys, by rw [h1]; simp, by simp [h2], ?_, h5.2⟩
      rw [List.flatMap_cons, List.append_assoc, ← h3, ← h5.1]
theorem matF_back {r : Rst} (h : (matF r).2.2 = false) : r.1 = matT2 (matF r).1 ++ (matF r).2.1 ∧ r.2 = false := by
  unfold matF at h ⊢
  have h1 := textF_back h
  have h2 := textF_back h1.2.1
  have h3 := numF_back h2.2.1
  refine ⟨?_, h3.2⟩
  simp only [matT2]
  rw [List.cons_append, List.append_assoc, ← h1.1, ← h2.1, ← h3.1]
theorem matsF_back : ∀ (n : Nat) (acc : List Mat) (r : Rst), (matsF n acc r).2.2 = false → ∃ ys : List Mat, (matsF n acc r).1 = acc ++ ys ∧ ys.length = n ∧ r.1 = ys.flatMap matT2 ++ (matsF n acc r).2.1 ∧ r.2 = false
  | 0, acc, r, h => ⟨[], by simp [matsF], rfl, by simp [matsF], h⟩
  | n + 1, acc, r, h => by
    rw [matsF] at h ⊢
    split at h
    · rename_i hr
      rw [hr] at h
      cases h
    · rename_i hr
      rw [if_neg hr]
      obtain ⟨ys, h1, h2, h3, h4⟩ := matsF_back n _ _ h
      have h5 := matF_back h4
      refine ⟨(matF r).1 :: ys, by rw [h1]; simp, by simp [h2], ?_, h5.2⟩
      rw [List.flatMap_cons, List.append_assoc, ← h3, ← h5.1]
theorem timeF_six {r : Rst} (h : (timeF 6 0 r).2.2 = false) : r.1 = sixB ((timeF 6 0 r).1 : Int) ++ (timeF 6 0 r).2.1 ∧ r.2 = false := by
  obtain ⟨l, b⟩ := r
  match l, h with
  | c0 :: c1 :: c2 :: c3 :: c4 :: c5 :: t, h =>
    refine ⟨?_, h⟩
    simp only [timeF, numF, sixB, List.cons_append, List.nil_append]
    have q0 := c0.toNat_lt
    have q1 := c1.toNat_lt
    have q2 := c2.toNat_lt
    have q3 := c3.toNat_lt
    have q4 := c4.toNat_lt
    have q5 := c5.toNat_lt
    have e : ∀ (c : UInt8) (x : Int), x % 256 = c.toNat → u8 x = c := by
      intro c x hx
      apply UInt8.toNat_inj.1
      rw [u8_tn]
      omega
    rw [e c0, e c1, e c2, e c3, e c4, e c5] <;> omega
  | [], h => cases h
  | [_], h => cases h
  | [_, _], h => cases h
  | [_, _, _], h => cases h
  | [_, _, _, _], h => cases h
  | [_, _, _, _, _], h => cases h
end Go.Proofs.Ytndgollcganhmaa
namespace Go.Proofs.YtndgollcganhmaaQ.P
open Go.RowKit Go.Proofs.YtndgollcganhmaaW.PrintWords Go.Proofs.YtndgollcganhmaaW.PrintLast Go.Proofs.YtndgollcganhmaaW.PrintMore
attribute [local go_sem] max2_int min2_int max_two min_two max_three min_three max_four min_four
def foghornlaw10_few.T5 : Bool × List (List Nat × List Nat) := (true, [([], []), ([], []), ([1], [1]), ([], []), ([3], [3]), ([4], [4]), ([5], [5]), ([2, 6], [2, 6]), ([], []), ([8], [8]), ([], []), ([10], [10]), ([11], [11]), ([12], [12]), ([9, 13], [9, 13]), ([7, 14], [7, 14]), ([15], [15]), ([0, 16], [0, 16]), ([17, 17, 0, 1, 2, 3, 4, 5, 6, 7, 8, 9, 10, 11, 12, 13, 14, 15, 16, 17], [0, 17])])
def foghornlaw10_few.B5 : List Nat := [0, 0, 2, 0, 8, 24, 56, 126, 0, 256, 0, 1024, 3072, 7168, 16128, 32766, 65534, 131071, 262143]
theorem foghornlaw10_few.tab5 : rtab .any (opsOf Try.f10 5) = foghornlaw10_few.T5 := by kernel_rfl
theorem foghornlaw10_few.bits5 : waitsOk foghornlaw10_few.T5.2 foghornlaw10_few.B5 = true := by kernel_rfl
end Go.Proofs.YtndgollcganhmaaQ.P
namespace Go.Proofs.YtndgollcganhmaaQ.P
open Go.RowKit Go.Proofs.YtndgollcganhmaaW.PrintWords Go.Proofs.YtndgollcganhmaaW.PrintLast Go.Proofs.YtndgollcganhmaaW.PrintMore
attribute [local go_sem] max2_int min2_int max_two min_two max_three min_three max_four min_four
def foghornlaw10_asked.T5 : Bool × List (List Nat × List Nat) := (true, [([], []), ([], []), ([1], [1]), ([], []), ([3], [3]), ([], []), ([5], [5]), ([6], [6]), ([7], [7]), ([4, 8], [4, 8]), ([], []), ([10], [10]), ([], []), ([12], [12]), ([13], [13]), ([14], [14]), ([11, 15], [11, 15]), ([2, 9, 16], [2, 9, 16]), ([17], [17]), ([0, 18], [0, 18]), ([19, 19, 0, 1, 2, 3, 4, 5, 6, 7, 8, 9, 10, 11, 12, 13, 14, 15, 16, 17, 18, 19], [0, 19])])
def foghornlaw10_asked.B5 : List Nat := [0, 0, 2, 0, 8, 0, 32, 96, 224, 504, 0, 1024, 0, 4096, 12288, 28672, 64512, 131070, 262142, 524287, 1048575]
theorem foghornlaw10_asked.tab5 : rtab .any (opsOf Try.f11 5) = foghornlaw10_asked.T5 := by kernel_rfl
theorem foghornlaw10_asked.bits5 : waitsOk foghornlaw10_asked.T5.2 foghornlaw10_asked.B5 = true := by kernel_rfl
end Go.Proofs.YtndgollcganhmaaQ.P
namespace Go.Proofs.Ytndgollcganhmaa
open Go.RowKit
attribute [local go_sem high] ext_size ext_cell ext_frozen alloc_cell alloc_frozen
def cut12 (x : ByteArray) : ByteArray := x.extract 0 12
def cutL (x : Lab) : Lab := ⟨cut12 x.name, cut12 x.value⟩
def fewL (xs : List Lab) : List Lab := (xs.take 6).map cutL
def cutM (x : Mat) : Mat := ⟨x.kind, cut12 x.name, cut12 x.value⟩
def fewM (xs : List Mat) : List Mat := (xs.take 6).map cutM
end Go.Proofs.Ytndgollcganhmaa
namespace Go.Proofs.YtndgollcganhmaaQ.P
open Go.RowKit Go.Proofs.YtndgollcganhmaaW.PrintWords Go.Proofs.YtndgollcganhmaaW.PrintLast Go.Proofs.YtndgollcganhmaaW.PrintMore Go.Proofs.Ytndgollcganhmaa
theorem rdL {xs : List S41} {i : Nat} (h : i < xs.length) : rd_T41 xs (i : Int) = xs[i] := getD_cast h
theorem rdM {xs : List S35} {i : Nat} (h : i < xs.length) : rd_T35 xs (i : Int) = xs[i] := getD_cast h
theorem bytes_list {a b : ByteArray} : (a.toList = b.toList) ↔ a = b := ⟨fun h => bytes_of_eq (by rw [h]; simp), fun h => by rw [h]⟩
end Go.Proofs.YtndgollcganhmaaQ.P
namespace Go.Proofs.YtndgollcganhmaaQ.P
open Go.RowKit Go.Proofs.YtndgollcganhmaaW.PrintWords Go.Proofs.Ytndgollcganhmaa
theorem tx_app (a b : List UInt8) : tx a ++ tx b = tx (a ++ b) := by
  apply ByteArray.ext
  rw [ByteArray.data_append]
  simp [tx]
theorem one_f (n : Int) : foghornref17_one.f n = some (tx [Go.Proofs.Ytndgollcganhmaa.u8 n]) := rfl
theorem text_f {s : ByteArray} (h : s.size ≤ 1000) : foghornref17_text.f s = some (tx (textB s)) := by
  unfold foghornref17_text.f
  rw [one_f]
  simp only [Option.bind_some]
  rw [if_pos (by rw [tx_size]; simp; omega)]
  have : s = tx s.data.toList := (tx_of s).symm
  conv => lhs; rw [this]
  rw [tx_app, ← this]
  rfl
theorem six_f (t : Int) (k : Nat) (ht : tickB t = true) : foghornref17_six.f (k + 7) t = some (tx (sixB t)) := by
  have h := tickB_of ht
  unfold foghornref17_six.f
  simp only [foghornref17_six.l0, one_f, Option.bind_some]
  have e : ∀ x : Int, 0 ≤ x → x ≤ 1099511627776 → wrap64 (Int.tdiv x 256) = x / 256 := by
    intro x h0 h1
    rw [Int.tdiv_eq_ediv_of_nonneg h0, w64 (by omega) (by omega)]
  have m : ∀ x : Int, 0 ≤ x → Go.Proofs.Ytndgollcganhmaa.u8 (Int.tmod x 256) = Go.Proofs.Ytndgollcganhmaa.u8 x := by
    intro x h0
    rw [Int.tmod_eq_emod_of_nonneg h0]
    apply UInt8.toNat_inj.1
    rw [u8_tn, u8_tn]
    omega
  have w : ∀ x : Int, 0 ≤ x → x ≤ 10 → wrap64 (x + 1) = x + 1 := fun x h0 h1 => w64 (by omega) (by omega)
  rw [show (⟨#[]⟩ : ByteArray) = tx [] from rfl]
  rw [show wrap64 (0 + 1) = 1 from w 0 (by omega) (by omega), show wrap64 (1 + 1) = 2 from w 1 (by omega) (by omega), show wrap64 (2 + 1) = 3 from w 2 (by omega) (by omega), show wrap64 (3 + 1) = 4 from w 3 (by omega) (by omega), show wrap64 (4 + 1) = 5 from w 4 (by omega) (by omega), show wrap64 (5 + 1) = 6 from w 5 (by omega) (by omega)]
  simp only [Int.reduceLT, if_true, if_false]
  rw [e t (by omega) (by omega), e (t / 256) (by omega) (by omega), e (t / 256 / 256) (by omega) (by omega), e (t / 256 / 256 / 256) (by omega) (by omega), e (t / 256 / 256 / 256 / 256) (by omega) (by omega), m t (by omega), m (t / 256) (by omega), m (t / 256 / 256) (by omega), m (t / 256 / 256 / 256) (by omega), m (t / 256 / 256 / 256 / 256) (by omega), m (t / 256 / 256 / 256 / 256 / 256) (by omega)]
  simp only [tx_app, tx_size, List.cons_append, List.nil_append, List.length_cons, List.length_nil]
  simp only [Nat.reduceAdd, Nat.reduceLeDiff, if_true]
  rw [show t / 256 / 256 / 256 / 256 / 256 = t / 1099511627776 by omega, show t / 256 / 256 / 256 / 256 = t / 4294967296 by omega, show t / 256 / 256 / 256 = t / 16777216 by omega, show t / 256 / 256 = t / 65536 by omega]
  rfl
theorem labels_l (xs : List Lab) (hx : ∀ x ∈ xs, x.name.size ≤ 12 ∧ x.value.size ≤ 12) (hl : xs.length ≤ 6) (d : Nat) : ∀ (k i : Nat) (acc : List UInt8), i + d = xs.length → d < k → acc.length ≤ 100 * i + 1 →
    foghornref17_labels.l0 k (tx acc) (xs.map ofLab) ((xs.map ofLab).length : Int) i = some (tx (acc ++ (xs.drop i).flatMap labT2)) := by
  induction d with
  | zero =>
    intro k i acc h hk ha
    obtain ⟨k, rfl⟩ : ∃ m, k = m + 1 := ⟨k - 1, by omega⟩
    simp only [foghornref17_labels.l0]
    rw [if_neg (by simp; omega), drop_end (by omega)]
    simp
  | succ d ih =>
    intro k i acc h hk ha
    obtain ⟨k, rfl⟩ : ∃ m, k = m + 1 := ⟨k - 1, by omega⟩
    have hi : i < (xs.map ofLab).length := by simp; omega
    have hi' : i < xs.length := by omega
    have hn := hx xs[i] (List.getElem_mem hi')
    have l1 := textB_len xs[i].name
    have l2 := textB_len xs[i].value
    simp only [foghornref17_labels.l0]
    rw [if_pos (by omega), if_pos (by omega), if_pos (by omega), rdL hi, List.getElem_map]
    simp only [ofLab]
    rw [text_f (by omega), Option.bind_some, if_pos (by rw [tx_size, tx_size]; omega), text_f (by omega), Option.bind_some, if_pos (by rw [tx_app, tx_size, tx_size, List.length_append]; omega), tx_app, tx_app, w64s (by omega), ih k (i + 1) _ (by omega) (by omega) (by simp only [List.length_append]; omega), drop_cons hi']
    simp only [List.flatMap_cons, List.append_assoc, labT2]
theorem labels_f {xs : List Lab} (hx : ∀ x ∈ xs, x.name.size ≤ 12 ∧ x.value.size ≤ 12) (hl : xs.length ≤ 6) {k : Nat} (hk : 7 ≤ k) : foghornref17_labels.f k (xs.map ofLab) = some (tx (labsW xs)) := by
  unfold foghornref17_labels.f
  rw [one_f, Option.bind_some, show (0 : Int) = ((0 : Nat) : Int) from rfl, labels_l xs hx hl xs.length k 0 _ (by omega) (by omega) (by simp)]
  simp [labsW]
theorem mats_l (xs : List Mat) (hx : ∀ x ∈ xs, x.name.size ≤ 12 ∧ x.value.size ≤ 12) (hl : xs.length ≤ 6) (d : Nat) : ∀ (k i : Nat) (acc : List UInt8), i + d = xs.length → d < k → acc.length ≤ 100 * i + 100 →
    foghornref17_Put.l0 k (tx acc) (xs.map ofMat) ((xs.map ofMat).length : Int) i = some (tx (acc ++ (xs.drop i).flatMap matT2)) := by
  induction d with
  | zero =>
    intro k i acc h hk ha
    obtain ⟨k, rfl⟩ : ∃ m, k = m + 1 := ⟨k - 1, by omega⟩
    simp only [foghornref17_Put.l0]
    rw [if_neg (by simp; omega), drop_end (by omega)]
    simp
  | succ d ih =>
    intro k i acc h hk ha
    obtain ⟨k, rfl⟩ : ∃ m, k = m + 1 := ⟨k - 1, by omega⟩
    have hi : i < (xs.map ofMat).length := by simp; omega
    have hi' : i < xs.length := by omega
    have hn := hx xs[i] (List.getElem_mem hi')
    have l1 := textB_len xs[i].name
    have l2 := textB_len xs[i].value
    simp only [foghornref17_Put.l0]
    rw [if_pos (by omega), if_pos (by omega), if_pos (by omega), rdM hi, List.getElem_map]
    simp only [ofMat]
    rw [one_f, Option.bind_some, if_pos (by rw [tx_size, tx_size]; simp; omega), text_f (by omega), Option.bind_some, if_pos (by rw [tx_app, tx_size, tx_size, List.length_append]; simp; omega), text_f (by omega), Option.bind_some, if_pos (by rw [tx_app, tx_app, tx_size, tx_size, List.length_append, List.length_append]; simp; omega), tx_app, tx_app, tx_app, w64s (by omega), ih k (i + 1) _ (by omega) (by omega) (by simp only [List.length_append, List.length_cons, List.length_nil]; omega), drop_cons hi']
    simp only [List.flatMap_cons, List.append_assoc, matT2, List.cons_append, List.nil_append]
theorem refPut_f {r : Rc} (ho : r.okB = true) {k : Nat} (hk : 20 ≤ k) : foghornref17_Put.f k r.k (r.l1.map ofLab) r.rt r.pl r.tr r.due r.st (r.l7.map ofLab) r.fr r.tt (r.l10.map ofMat) = some (tx r.bytes) := by
  obtain ⟨k, rfl⟩ : ∃ m, k = m + 7 := ⟨k - 7, by omega⟩
  unfold foghornref17_Put.f Rc.bytes putW
  unfold Rc.okB at ho
  by_cases e1 : r.k = 1
  · rw [if_pos e1] at ho
    simp only [Bool.and_eq_true, dutyB] at ho
    have hf := labsB_few ho.1.1.1.1.1.2
    rw [if_neg (by omega), if_pos e1, if_pos e1]
    simp only [one_f, Option.bind_some, six_f _ _ ho.1.1.1.1.2, labels_f (k := k + 7) (xs := r.l1) (fun x hx => by have := hf.2.2 x hx; omega) (by omega) (by omega), tx_app, tx_size]
    have hn : (labsW r.l1).length ≤ 1000 := by
      have := flat_le labT2 100 r.l1 (fun x hx => by
        have := hf.2.2 x hx
        simp only [labT2, List.length_append, textB_len]; omega)
      simp only [labsW, List.length_cons]
      omega
    simp only [List.length_append, List.length_cons, List.length_nil, sixB_len, Int.reduceLE, Nat.reduceAdd]
    rw [if_pos (by omega), if_pos (by omega), if_pos (by omega), if_pos (by omega), if_pos (by omega), if_pos (by omega)]
    rfl
  · rw [if_neg e1] at ho
    by_cases e2 : r.k = 2
    · rw [if_pos e2] at ho
      simp only [Bool.and_eq_true] at ho
      have hf := labsB_few ho.1.1
      rw [if_pos e2, if_neg e1, if_pos e2]
      have hn : (labsW r.l7).length ≤ 1000 := by
        have := flat_le labT2 100 r.l7 (fun x hx => by
          have := hf.2.2 x hx
          simp only [labT2, List.length_append, textB_len]; omega)
        simp only [labsW, List.length_cons]
        omega
      simp only [one_f, Option.bind_some, labels_f (k := k + 7) (xs := r.l7) (fun x hx => by have := hf.2.2 x hx; omega) (by omega) (by omega), tx_app, tx_size, List.length_cons, List.length_nil]
      rw [if_pos (by omega)]
      rfl
    · rw [if_neg e2] at ho
      by_cases e3 : r.k = 3
      · rw [if_pos e3] at ho
        simp only [Bool.and_eq_true] at ho
        have hf := hushB_few ho.1.1
        rw [if_neg e2, if_neg e1, if_neg e1, if_neg e2]
        simp only [one_f, Option.bind_some, six_f _ _ hf.1, six_f _ _ hf.2.1, tx_app, tx_size]
        simp only [List.length_append, List.length_cons, List.length_nil, sixB_len]
        rw [if_pos (by omega), if_pos (by omega), if_pos (by omega), show (0 : Int) = ((0 : Nat) : Int) from rfl, mats_l r.l10 (fun x hx => by have := matB_few (hf.2.2.2.2.2 x hx); omega) (by omega) r.l10.length _ 0 _ (by omega) (by omega) (by simp [sixB_len])]
        simp [hushW, matsW, e3]
      · rw [if_neg e3] at ho
        cases ho
end Go.Proofs.YtndgollcganhmaaQ.P
namespace Go.Proofs.YtndgollcganhmaaQ.P
open Go.RowKit Go.Proofs.YtndgollcganhmaaW.PrintWords Go.Proofs.Ytndgollcganhmaa
theorem asked_l (xs ys : List Mat) (hl : xs.length = ys.length) (hb : xs.length < 1000000) (d : Nat) : ∀ (k i : Nat), i + d = xs.length → d < k →
    foghornref10_Asked.l0 k (xs.map ofMat) (ys.map ofMat) ((xs.map ofMat).length : Int) i = some (decide (xs.drop i = ys.drop i)) := by
  induction d with
  | zero =>
    intro k i h hk
    obtain ⟨k, rfl⟩ : ∃ m, k = m + 1 := ⟨k - 1, by omega⟩
    simp only [foghornref10_Asked.l0]
    rw [if_neg (by simp; omega), drop_end (by omega), drop_end (by omega)]
    simp
  | succ d ih =>
    intro k i h hk
    obtain ⟨k, rfl⟩ : ∃ m, k = m + 1 := ⟨k - 1, by omega⟩
    have hi : i < (xs.map ofMat).length := by simp; omega
    have hj : i < (ys.map ofMat).length := by simp; omega
    have hi' : i < xs.length := by omega
    have hj' : i < ys.length := by omega
    simp only [foghornref10_Asked.l0]
    rw [if_pos (by omega), if_pos (by omega), if_pos (by omega), if_pos (by omega), rdM hi, rdM hj, List.getElem_map, List.getElem_map, w64s (by omega), ih k (i + 1) (by omega) (by omega), drop_cons hi', drop_cons hj']
    generalize xs[i] = x
    generalize ys[i] = y
    obtain ⟨a, b, c⟩ := x
    obtain ⟨a', b', c'⟩ := y
    simp only [ofMat]
    by_cases h1 : a = a'
    · by_cases h2 : b = b'
      · by_cases h3 : c = c'
        · subst h1 h2 h3
          simp
        · have : ¬ c.toList = c'.toList := fun h => h3 (bytes_list.1 h)
          simp [h1, h2, h3, this]
      · have : ¬ b.toList = b'.toList := fun h => h2 (bytes_list.1 h)
        simp [h1, h2, this]
    · simp [h1]
theorem asked_f (xs ys : List Mat) (hb : xs.length < 1000000) {k : Nat} (hk : xs.length < k) : foghornref10_Asked.f k (xs.map ofMat) (ys.map ofMat) = some (decide (xs = ys)) := by
  unfold foghornref10_Asked.f
  by_cases h : xs.length = ys.length
  · rw [if_pos (by simp [h]), show (0 : Int) = ((0 : Nat) : Int) from rfl, asked_l xs ys h hb xs.length k 0 (by omega) (by omega)]
    simp
  · rw [if_neg (by simp; omega)]
    have : xs ≠ ys := fun e => h (by rw [e])
    simp [this]
theorem hushes_f (f t f' t' : Int) (xs ys : List Mat) (hb : xs.length < 1000000) {k : Nat} (hk : xs.length < k) : foghornref12_Hushes.f k f t (xs.map ofMat) f' t' (ys.map ofMat) = some (decide (f = f') && decide (t = t') && decide (xs = ys)) := by
  unfold foghornref12_Hushes.f
  rw [asked_f xs ys hb hk]
  by_cases h1 : f = f' <;> by_cases h2 : t = t' <;> simp [h1, h2]
theorem refSameL_f (a b : List Lab) : foghornref10_Same.f (a.map ofLab) (b.map ofLab) = some (decide (a = b)) := by
  unfold foghornref10_Same.f
  rw [labs_to_of, labs_to_of]
theorem dutySame_f (a b : List Lab) (a1 a2 a3 a4 a5 b1 b2 b3 b4 b5 : Int) : foghornref16_Same.f (a.map ofLab) a1 a2 a3 a4 a5 (b.map ofLab) b1 b2 b3 b4 b5 = some (decide (a = b) && (decide (a1 = b1) && (decide (a2 = b2) && (decide (a3 = b3) && (decide (a4 = b4) && decide (a5 = b5)))))) := by
  unfold foghornref16_Same.f
  rw [refSameL_f]
  by_cases h0 : a = b <;> by_cases h1 : a1 = b1 <;> by_cases h2 : a2 = b2 <;> by_cases h3 : a3 = b3 <;> by_cases h4 : a4 = b4 <;> simp [h0, h1, h2, h3, h4]
  rw [Bool.eq_iff_iff]
  simp
instance : DecidableEq Rc := fun a b =>
  decidable_of_iff (a.k = b.k ∧ a.l1 = b.l1 ∧ a.rt = b.rt ∧ a.pl = b.pl ∧ a.tr = b.tr ∧ a.due = b.due ∧ a.st = b.st ∧ a.l7 = b.l7 ∧ a.fr = b.fr ∧ a.tt = b.tt ∧ a.l10 = b.l10)
    ⟨fun h => by cases a; cases b; simpa using h, fun h => by subst h; simp⟩
theorem same_f (a b : Rc) (hb : a.l10.length < 1000000) {k : Nat} (hk : a.l10.length < k) : foghornref17_Same.f k a.k (a.l1.map ofLab) a.rt a.pl a.tr a.due a.st (a.l7.map ofLab) a.fr a.tt (a.l10.map ofMat) b.k (b.l1.map ofLab) b.rt b.pl b.tr b.due b.st (b.l7.map ofLab) b.fr b.tt (b.l10.map ofMat) = some (decide (a = b)) := by
  unfold foghornref17_Same.f
  rw [dutySame_f, refSameL_f, hushes_f _ _ _ _ _ _ hb hk]
  obtain ⟨ak, a1, a2, a3, a4, a5, a6, a7, a8, a9, a10⟩ := a
  obtain ⟨bk, b1, b2, b3, b4, b5, b6, b7, b8, b9, b10⟩ := b
  simp only [Rc.mk.injEq]
  by_cases h0 : ak = bk <;> by_cases h1 : a1 = b1 <;> by_cases h2 : a2 = b2 <;> by_cases h3 : a3 = b3 <;> by_cases h4 : a4 = b4 <;> by_cases h5 : a5 = b5 <;> by_cases h6 : a6 = b6 <;> by_cases h7 : a7 = b7 <;> simp [h0, h1, h2, h3, h4, h5, h6, h7, Bool.and_assoc]
theorem refTick_f (t : Int) : foghornref05_Right.f t = some (tickB t) := by
  unfold foghornref05_Right.f tickB
  by_cases h : 0 ≤ t <;> simp [h]
theorem refRightL_f {l : List Lab} (h : LabsOk l) : foghornref10_Right.f (l.map ofLab) = some (labsB l) := by
  unfold foghornref10_Right.f
  rw [if_pos (labsOkB_of h), labs_to_of]
theorem refDuty_f {r : Rc} (h : LabsOk r.l1) : foghornref17_duty.f (r.l1.map ofLab) r.rt r.pl r.tr r.due r.st = some (dutyB r) := by
  unfold foghornref17_duty.f dutyB numsB
  simp only [refRightL_f h, refTick_f, Option.bind_some, ge_iff_le]
  have e1 : (r.rt < 4) = (r.rt ≤ 3) := propext ⟨fun h => by omega, fun h => by omega⟩
  have e2 : (r.pl < 4) = (r.pl ≤ 3) := propext ⟨fun h => by omega, fun h => by omega⟩
  simp only [e1, e2]
  cases labsB r.l1 <;> by_cases h1 : 0 ≤ r.rt <;> by_cases h2 : r.rt ≤ 3 <;> by_cases h3 : 0 ≤ r.pl <;> by_cases h4 : r.pl ≤ 3 <;> by_cases h5 : 0 ≤ r.tr <;> by_cases h6 : r.tr ≤ 99 <;> simp [h1, h2, h3, h4, h5, h6]
  cases tickB r.due <;> by_cases h7 : 1 ≤ r.st <;> simp [h7]
theorem refHush_f {f t : Int} {l : List Mat} (h : MatsOk l) : foghornref12_Hush.f f t (l.map ofMat) = some (hushB f t l) := by
  unfold foghornref12_Hush.f hushB foghornref10_Matchers.f
  rw [if_pos (matsOkB_of h), mats_to_of]
  simp only [refTick_f, matsB, tickB]
  have e1 : (((l.map ofMat).length : Int) ≥ 1) = (1 ≤ l.length) := by simp; omega
  simp only [e1, timeB]
  by_cases h1 : 0 ≤ f <;> by_cases h2 : f ≤ 1099511627776 <;> by_cases h3 : 0 ≤ t <;> by_cases h4 : t ≤ 1099511627776 <;> by_cases h5 : f < t <;> by_cases h6 : 1 ≤ l.length <;> simp [h1, h2, h3, h4, h5, h6]
theorem refRight_f {r : Rc} (h : r.sz) (hb : r.l10.length < 1000000) {k : Nat} (hk : r.l10.length < k) : foghornref17_Right.f k r.k (r.l1.map ofLab) r.rt r.pl r.tr r.due r.st (r.l7.map ofLab) r.fr r.tt (r.l10.map ofMat) = some r.okB := by
  obtain ⟨h1, h2, h3⟩ := h
  have hd := dutySame_f r.l1 [] r.rt r.pl r.tr r.due r.st 0 0 0 0 0
  have hh := hushes_f r.fr r.tt 0 0 r.l10 [] hb hk
  simp only [List.map_nil] at hd hh
  unfold foghornref17_Right.f Rc.okB
  rw [hd, hh, refDuty_f h1, refRightL_f h2, refHush_f h3]
  have hd' : (decide (r.l1 = []) && (decide (r.rt = 0) && (decide (r.pl = 0) && (decide (r.tr = 0) && (decide (r.due = 0) && decide (r.st = 0)))))) = noDutyB r := by simp [noDutyB, Bool.and_assoc]
  have hh' : (decide (r.fr = 0) && decide (r.tt = 0) && decide (r.l10 = [])) = noHushB r := rfl
  rw [hd', hh']
  have h7 : (((r.l7.map ofLab).length : Int) = 0) = (r.l7 = []) := by simp
  have h8 : (((r.l7.map ofLab).length : Int) == 0) = decide (r.l7 = []) := by rw [Bool.eq_iff_iff]; simp
  simp only [Option.bind_some, h7, h8]
  by_cases e1 : r.k = 1
  · simp only [e1, if_true]
    cases dutyB r <;> by_cases e : r.l7 = [] <;> simp [e]
  · by_cases e2 : r.k = 2
    · simp only [e2, if_true]
      cases labsB r.l7 <;> cases noDutyB r <;> simp
    · by_cases e3 : r.k = 3
      · simp only [e3, if_true]
        cases hushB r.fr r.tt r.l10 <;> cases noDutyB r <;> simp
      · simp [e1, e2, e3]
end Go.Proofs.YtndgollcganhmaaQ.P
namespace Go.Proofs.YtndgollcganhmaaQ.P
open Go.RowKit Go.Proofs.YtndgollcganhmaaW.PrintWords Go.Proofs.Ytndgollcganhmaa
abbrev bl (s : ByteArray) : List UInt8 := s.data.toList
def atN (l : List UInt8) (i : Nat) : Nat := ((l.drop i).headD 0).toNat
theorem atN_lt (l : List UInt8) (i : Nat) : atN l i < 256 := by
  have := ((l.drop i).headD 0).toNat_lt
  unfold atN
  omega
theorem bl_len (s : ByteArray) : (bl s).length = s.size := len_data s
theorem at_f (s : ByteArray) (i : Nat) : foghornref17_at.f s i = some ((atN (bl s) i : Nat) : Int) := by
  unfold foghornref17_at.f
  have hl := bl_len s
  by_cases h : i < s.size
  · rw [if_pos (by omega), if_pos (by omega)]
    have h1 := bt_range s i
    rw [w64 (by omega) (by omega)]
    congr 1
    unfold bt
    rw [dif_pos (by simpa using h)]
    unfold atN
    rw [drop_cons (by omega : i < (bl s).length)]
    simp only [List.headD_cons, Int.toNat_natCast]
    rfl
  · rw [if_neg (by omega)]
    unfold atN
    rw [drop_end (by omega)]
    rfl
theorem at_cons {l t : List UInt8} {c : UInt8} {i : Nat} (h : l.drop i = c :: t) : atN l i = c.toNat ∧ l.drop (i + 1) = t := by
  unfold atN
  rw [h]
  refine ⟨rfl, ?_⟩
  rw [← List.drop_drop, h]
  rfl
def timeR : Nat → List UInt8 → Nat → Nat → Nat
  | 0, _, _, n => n
  | d + 1, l, i, n => timeR d l (i + 1) (256 * n + atN l i)
theorem timeR_F : ∀ (d : Nat) (l : List UInt8) (i n : Nat) (b : Bool), timeR d l i n = (timeF d n (l.drop i, b)).1
  | 0, _, _, _, _ => rfl
  | d + 1, l, i, n, b => by
    unfold timeR timeF
    cases h : l.drop i with
    | nil =>
      have hl : l.length ≤ i := by simpa using h
      rw [timeR_F d l _ _ true, drop_end (by omega)]
      simp only [numF, atN, h, List.headD_nil]
      rw [Nat.mul_comm]
      rfl
    | cons c t =>
      have := at_cons h
      rw [timeR_F d l _ _ b, this.2, this.1]
      simp only [numF]
      rw [Nat.mul_comm]
theorem time_l (s : ByteArray) (i : Nat) (hi : i ≤ 100000) (d : Nat) : ∀ (k j n : Nat), j + d = 6 → d < k → n + 1 ≤ 256 ^ j → foghornref17_time.l0 k s i n j = some ((timeR d (bl s) (i + j) n : Nat) : Int) := by
  induction d with
  | zero =>
    intro k j n h hk hn
    obtain ⟨k, rfl⟩ : ∃ m, k = m + 1 := ⟨k - 1, by omega⟩
    simp only [foghornref17_time.l0]
    rw [if_neg (by omega)]
    rfl
  | succ d ih =>
    intro k j n h hk hn
    obtain ⟨k, rfl⟩ : ∃ m, k = m + 1 := ⟨k - 1, by omega⟩
    simp only [foghornref17_time.l0]
    have hp : 256 ^ (j + 1) ≤ 256 ^ 6 := Nat.pow_le_pow_right (by omega) (by omega)
    have hq := Nat.pow_succ 256 j
    have ha := atN_lt (bl s) (i + j)
    rw [if_pos (by omega), w64 (x := (i : Int) + j) (by omega) (by omega), show (i : Int) + j = ((i + j : Nat) : Int) by omega, at_f, Option.bind_some]
    generalize 256 ^ j = q at *
    rw [w64 (x := 256 * (n : Int)) (by omega) (by omega), w64 (x := 256 * (n : Int) + _) (by omega) (by omega), w64s (by omega), show (256 * (n : Int) + (atN (bl s) (i + j) : Nat)) = ((256 * n + atN (bl s) (i + j) : Nat) : Int) by omega, ih k (j + 1) _ (by omega) (by omega) (by omega)]
    rfl
theorem time_f (s : ByteArray) (i : Nat) (hi : i ≤ 100000) {k : Nat} (hk : 7 ≤ k) : foghornref17_time.f k s i = some (((timeF 6 0 ((bl s).drop i, false)).1 : Nat) : Int) := by
  unfold foghornref17_time.f
  have := time_l s i hi 6 k 0 0 (by omega) (by omega) (by simp)
  rw [← timeR_F]
  exact this
theorem word_some (s : ByteArray) (i : Nat) (hi : i ≤ 100000) (hs : s.size ≤ 100000) : ∃ (t : ByteArray) (j : Nat), foghornref17_word.f s i = some (t, (j : Int)) ∧ t.size ≤ s.size ∧ j ≤ max (i + 1) s.size := by
  unfold foghornref17_word.f
  have ha := atN_lt (bl s) i
  rw [at_f, Option.bind_some, w64 (x := (i : Int) + 1) (by omega) (by omega), w64 (x := (i : Int) + 1 + _) (by omega) (by omega)]
  have e := mn_eq ((i : Int) + 1 + (atN (bl s) i : Nat)) (s.size : Int)
  split
  · exact ⟨⟨#[]⟩, i + 1, rfl, Nat.zero_le _, by omega⟩
  · rename_i h
    rw [if_pos (by omega), if_pos (by omega), if_pos (by omega)]
    refine ⟨_, (mn ((i : Int) + 1 + (atN (bl s) i : Nat)) (s.size : Int)).toNat, by rw [Int.toNat_of_nonneg (by omega)], ?_, by omega⟩
    rw [ByteArray.size_extract]
    omega
theorem extract_mid (s : ByteArray) (a n : Nat) : s.extract a (a + n) = tx (((bl s).drop a).take n) := by
  apply ByteArray.ext
  rw [ByteArray.data_extract]
  apply Array.toList_inj.1
  simp [tx, List.extract_eq_take_drop]
theorem word_app {s t : ByteArray} {i : Nat} {r : List UInt8} (hi : i ≤ 100000) (hs : s.size ≤ 100000) (ht : t.size < 256) (h : (bl s).drop i = textB t ++ r) : foghornref17_word.f s i = some (t, ((i + 1 + t.size : Nat) : Int)) := by
  have h1 := at_cons (show (bl s).drop i = Go.Proofs.Ytndgollcganhmaa.u8 (t.size : Int) :: (t.data.toList ++ r) from h)
  have hl := congrArg List.length h
  rw [List.length_drop, bl_len, List.length_append, textB_len] at hl
  have ha : atN (bl s) i = t.size := by rw [h1.1, u8_nat ht]
  unfold foghornref17_word.f
  rw [at_f, Option.bind_some, w64 (x := (i : Int) + 1) (by omega) (by omega), w64 (x := (i : Int) + 1 + _) (by omega) (by omega), ha]
  have e := mn_eq ((i : Int) + 1 + (t.size : Nat)) (s.size : Int)
  have e' : mn ((i : Int) + 1 + (t.size : Nat)) (s.size : Int) = ((i + 1 + t.size : Nat) : Int) := by omega
  rw [e']
  split
  · rename_i hz
    have hz : t.size = 0 := by omega
    have : t = ⟨#[]⟩ := by
      apply ByteArray.ext
      exact Array.eq_empty_of_size_eq_zero hz
    rw [hz, ← this]
    rfl
  · rw [if_pos (by omega), if_pos (by omega), if_pos (by omega), show ((i : Int) + 1) = ((i + 1 : Nat) : Int) by omega, Int.toNat_natCast, Int.toNat_natCast, extract_mid, h1.2, List.take_append_of_le_length (by rw [len_data]; omega), List.take_of_length_le (by rw [len_data]; omega), tx_of]
theorem labels_some (s : ByteArray) (hs : s.size ≤ 1000) (n : Nat) (hn : n < 256) (d : Nat) : ∀ (k p j : Nat) (acc : List Lab), j + d = n → 2 * d + 1 < k → p ≤ 2000 → acc.length ≤ j → LabsOk acc →
    ∃ ys : List Lab, foghornref17_some.l0 k s p (acc.map ofLab) n j = some (ys.map ofLab) ∧ LabsOk ys := by
  induction d with
  | zero =>
    intro k p j acc h hk hp ha ho
    obtain ⟨k, rfl⟩ : ∃ m, k = m + 2 := ⟨k - 2, by omega⟩
    simp only [foghornref17_some.l0]
    rw [if_neg (by omega)]
    simp only [foghornref17_some.j1]
    rw [if_neg (by simp)]
    exact ⟨acc, rfl, ho⟩
  | succ d ih =>
    intro k p j acc h hk hp ha ho
    obtain ⟨k, rfl⟩ : ∃ m, k = m + 2 := ⟨k - 2, by omega⟩
    simp only [foghornref17_some.l0]
    rw [if_pos (by omega)]
    simp only [foghornref17_some.j1]
    by_cases hc : p < s.size
    · obtain ⟨t, p1, h1, ht, hp1⟩ := word_some s p (by omega) (by omega)
      obtain ⟨u, p2, h2, hu, hp2⟩ := word_some s p1 (by omega) (by omega)
      rw [if_pos (by simp; omega), h1, Option.bind_some]
      simp only
      rw [h2, Option.bind_some, if_pos (by simp; omega), w64s (by omega)]
      have := ih k p2 (j + 1) (acc ++ [⟨t, u⟩]) (by omega) (by omega) (by omega) (by simp; omega) (by
        intro x hx
        rcases List.mem_append.1 hx with hx | hx
        · exact ho x hx
        · obtain rfl := List.mem_singleton.1 hx
          unfold maxLen
          exact ⟨by simp only; omega, by simp only; omega⟩)
      rw [List.map_append] at this
      exact this
    · rw [if_neg (by simp; omega)]
      exact ⟨acc, rfl, ho⟩
theorem some_some (s : ByteArray) (i : Nat) (hi : i ≤ 1000) (hs : s.size ≤ 1000) {k : Nat} (hk : 600 ≤ k) : ∃ ys : List Lab, foghornref17_some.f k s i = some (ys.map ofLab) ∧ LabsOk ys := by
  unfold foghornref17_some.f
  have ha := atN_lt (bl s) i
  rw [at_f, Option.bind_some, w64s (by omega)]
  exact labels_some s hs _ ha (atN (bl s) i) k (i + 1) 0 [] (by omega) (by omega) (by omega) (by simp) (fun x hx => by cases hx)
theorem labels_app (s : ByteArray) (hs : s.size ≤ 1000) (n : Nat) (hn : n < 256) (r : List UInt8) : ∀ (ys : List Lab) (k p j : Nat) (acc : List Lab), j + ys.length = n → 2 * ys.length + 1 < k → p ≤ 2000 → acc.length ≤ j → (∀ x ∈ ys, x.name.size < 256 ∧ x.value.size < 256) → (bl s).drop p = ys.flatMap labT2 ++ r →
    foghornref17_some.l0 k s p (acc.map ofLab) n j = some ((acc ++ ys).map ofLab)
  | [], k, p, j, acc, h, hk, hp, ha, hx, hd => by
    simp only [List.length_nil] at h hk
    obtain ⟨k, rfl⟩ : ∃ m, k = m + 2 := ⟨k - 2, by omega⟩
    simp only [foghornref17_some.l0]
    rw [if_neg (by omega)]
    simp only [foghornref17_some.j1]
    rw [if_neg (by simp), List.append_nil]
  | x :: ys, k, p, j, acc, h, hk, hp, ha, hx, hd => by
    simp only [List.length_cons] at h hk
    obtain ⟨k, rfl⟩ : ∃ m, k = m + 2 := ⟨k - 2, by omega⟩
    have hx0 := hx x (by simp)
    have hl := congrArg List.length hd
    rw [List.length_drop, bl_len, List.flatMap_cons, List.append_assoc, List.length_append, labT2, List.length_append, textB_len, textB_len] at hl
    rw [List.flatMap_cons, labT2, List.append_assoc, List.append_assoc] at hd
    simp only [foghornref17_some.l0]
    rw [if_pos (by omega)]
    simp only [foghornref17_some.j1]
    have hd1 : (bl s).drop (p + 1 + x.name.size) = textB x.value ++ (ys.flatMap labT2 ++ r) := by
      rw [Nat.add_assoc, ← List.drop_drop, hd, show 1 + x.name.size = (textB x.name).length by rw [textB_len]; omega, List.drop_left]
    have hd2 : (bl s).drop (p + 1 + x.name.size + 1 + x.value.size) = ys.flatMap labT2 ++ r := by
      rw [Nat.add_assoc (p + 1 + x.name.size), ← List.drop_drop, hd1, show 1 + x.value.size = (textB x.value).length by rw [textB_len]; omega, List.drop_left]
    rw [if_pos (by simp; omega), word_app (by omega) (by omega) hx0.1 hd, Option.bind_some]
    simp only
    rw [word_app (by omega) (by omega) hx0.2 hd1, Option.bind_some, if_pos (by simp; omega), w64s (by omega)]
    have := labels_app s hs n hn r ys k _ (j + 1) (acc ++ [x]) (by omega) (by omega) (by omega) (by simp; omega) (fun y hy => hx y (by simp [hy])) hd2
    rw [List.map_append] at this
    rw [List.append_assoc] at this
    exact this
theorem some_app {s : ByteArray} {i : Nat} {ys : List Lab} {r : List UInt8} (hi : i ≤ 1000) (hs : s.size ≤ 1000) (hy : ys.length < 256) (hx : ∀ x ∈ ys, x.name.size < 256 ∧ x.value.size < 256) (h : (bl s).drop i = labsW ys ++ r) {k : Nat} (hk : 600 ≤ k) : foghornref17_some.f k s i = some (ys.map ofLab) := by
  have h1 := at_cons (show (bl s).drop i = Go.Proofs.Ytndgollcganhmaa.u8 (ys.length : Int) :: (ys.flatMap labT2 ++ r) from h)
  unfold foghornref17_some.f
  rw [at_f, Option.bind_some, w64s (by omega), h1.1, u8_nat hy]
  exact labels_app s hs _ hy r ys k (i + 1) 0 [] (by omega) (by omega) (by omega) (by simp) hx h1.2
theorem mats_some (s : ByteArray) (hs : s.size ≤ 1000) (n : Nat) (hn : n < 256) (d : Nat) : ∀ (k p j : Nat) (acc : List Mat), j + d = n → 2 * d + 1 < k → p ≤ 2000 → acc.length ≤ j → MatsOk acc →
    ∃ ys : List Mat, foghornref17_asked.l0 k s p (acc.map ofMat) n j = some (ys.map ofMat) ∧ MatsOk ys ∧ ys.length ≤ n := by
  induction d with
  | zero =>
    intro k p j acc h hk hp ha ho
    obtain ⟨k, rfl⟩ : ∃ m, k = m + 2 := ⟨k - 2, by omega⟩
    simp only [foghornref17_asked.l0]
    rw [if_neg (by omega)]
    simp only [foghornref17_asked.j1]
    rw [if_neg (by simp)]
    exact ⟨acc, rfl, ho, by omega⟩
  | succ d ih =>
    intro k p j acc h hk hp ha ho
    obtain ⟨k, rfl⟩ : ∃ m, k = m + 2 := ⟨k - 2, by omega⟩
    simp only [foghornref17_asked.l0]
    rw [if_pos (by omega)]
    simp only [foghornref17_asked.j1]
    by_cases hc : p < s.size
    · obtain ⟨t, p1, h1, ht, hp1⟩ := word_some s (p + 1) (by omega) (by omega)
      obtain ⟨u, p2, h2, hu, hp2⟩ := word_some s p1 (by omega) (by omega)
      rw [if_pos (by simp; omega), at_f, Option.bind_some, w64s (by omega), h1, Option.bind_some]
      simp only
      rw [h2, Option.bind_some, if_pos (by simp; omega), w64s (by omega)]
      have := ih k p2 (j + 1) (acc ++ [⟨(atN (bl s) p : Nat), t, u⟩]) (by omega) (by omega) (by omega) (by simp; omega) (by
        intro x hx
        rcases List.mem_append.1 hx with hx | hx
        · exact ho x hx
        · obtain rfl := List.mem_singleton.1 hx
          unfold maxLen
          exact ⟨by simp only; omega, by simp only; omega⟩)
      rw [List.map_append] at this
      exact this
    · rw [if_neg (by simp; omega)]
      exact ⟨acc, rfl, ho, by omega⟩
theorem asked_some (s : ByteArray) (i : Nat) (hi : i ≤ 1000) (hs : s.size ≤ 1000) {k : Nat} (hk : 600 ≤ k) : ∃ ys : List Mat, foghornref17_asked.f k s i = some (ys.map ofMat) ∧ MatsOk ys ∧ ys.length ≤ 255 := by
  unfold foghornref17_asked.f
  have ha := atN_lt (bl s) i
  rw [at_f, Option.bind_some, w64s (by omega)]
  obtain ⟨ys, h1, h2, h3⟩ := mats_some s hs _ ha (atN (bl s) i) k (i + 1) 0 [] (by omega) (by omega) (by omega) (by simp) (fun x hx => by cases hx)
  exact ⟨ys, h1, h2, by omega⟩
theorem mats_app (s : ByteArray) (hs : s.size ≤ 1000) (n : Nat) (hn : n < 256) (r : List UInt8) : ∀ (ys : List Mat) (k p j : Nat) (acc : List Mat), j + ys.length = n → 2 * ys.length + 1 < k → p ≤ 2000 → acc.length ≤ j → (∀ x ∈ ys, 0 ≤ x.kind ∧ x.kind < 256 ∧ x.name.size < 256 ∧ x.value.size < 256) → (bl s).drop p = ys.flatMap matT2 ++ r →
    foghornref17_asked.l0 k s p (acc.map ofMat) n j = some ((acc ++ ys).map ofMat)
  | [], k, p, j, acc, h, hk, hp, ha, hx, hd => by
    simp only [List.length_nil] at h hk
    obtain ⟨k, rfl⟩ : ∃ m, k = m + 2 := ⟨k - 2, by omega⟩
    simp only [foghornref17_asked.l0]
    rw [if_neg (by omega)]
    simp only [foghornref17_asked.j1]
    rw [if_neg (by simp), List.append_nil]
  | x :: ys, k, p, j, acc, h, hk, hp, ha, hx, hd => by
    simp only [List.length_cons] at h hk
    obtain ⟨k, rfl⟩ : ∃ m, k = m + 2 := ⟨k - 2, by omega⟩
    have hx0 := hx x (by simp)
    have hl := congrArg List.length hd
    rw [List.length_drop, bl_len, List.flatMap_cons, List.append_assoc, List.length_append, matT2, List.length_cons, List.length_append, textB_len, textB_len] at hl
    rw [List.flatMap_cons, matT2, List.append_assoc, List.cons_append, List.append_assoc] at hd
    have h1 := at_cons hd
    have hk' : ((atN (bl s) p : Nat) : Int) = x.kind := by
      rw [h1.1, u8_tn]
      omega
    simp only [foghornref17_asked.l0]
    rw [if_pos (by omega)]
    simp only [foghornref17_asked.j1]
    have hd1 : (bl s).drop (p + 1 + 1 + x.name.size) = textB x.value ++ (ys.flatMap matT2 ++ r) := by
      rw [Nat.add_assoc (p + 1), ← List.drop_drop, h1.2, show 1 + x.name.size = (textB x.name).length by rw [textB_len]; omega, List.drop_left]
    have hd2 : (bl s).drop (p + 1 + 1 + x.name.size + 1 + x.value.size) = ys.flatMap matT2 ++ r := by
      rw [Nat.add_assoc (p + 1 + 1 + x.name.size), ← List.drop_drop, hd1, show 1 + x.value.size = (textB x.value).length by rw [textB_len]; omega, List.drop_left]
    rw [if_pos (by simp; omega), at_f, Option.bind_some, hk', w64s (by omega), word_app (by omega) (by omega) hx0.2.2.1 h1.2, Option.bind_some]
    simp only
    rw [word_app (by omega) (by omega) hx0.2.2.2 hd1, Option.bind_some, if_pos (by simp; omega), w64s (by omega)]
    have := mats_app s hs n hn r ys k _ (j + 1) (acc ++ [x]) (by omega) (by omega) (by omega) (by simp; omega) (fun y hy => hx y (by simp [hy])) hd2
    rw [List.map_append] at this
    rw [List.append_assoc] at this
    exact this
theorem asked_app {s : ByteArray} {i : Nat} {ys : List Mat} {r : List UInt8} (hi : i ≤ 1000) (hs : s.size ≤ 1000) (hy : ys.length < 256) (hx : ∀ x ∈ ys, 0 ≤ x.kind ∧ x.kind < 256 ∧ x.name.size < 256 ∧ x.value.size < 256) (h : (bl s).drop i = matsW ys ++ r) {k : Nat} (hk : 600 ≤ k) : foghornref17_asked.f k s i = some (ys.map ofMat) := by
  have h1 := at_cons (show (bl s).drop i = Go.Proofs.Ytndgollcganhmaa.u8 (ys.length : Int) :: (ys.flatMap matT2 ++ r) from h)
  unfold foghornref17_asked.f
  rw [at_f, Option.bind_some, w64s (by omega), h1.1, u8_nat hy]
  exact mats_app s hs _ hy r ys k (i + 1) 0 [] (by omega) (by omega) (by omega) (by simp) hx h1.2
def Rc.tupB (r : Rc) (b : Bool) : Int × (List S41) × Int × Int × Int × Int × Int × (List S41) × Int × Int × (List S35) × Bool :=
  (r.k, r.l1.map ofLab, r.rt, r.pl, r.tr, r.due, r.st, r.l7.map ofLab, r.fr, r.tt, r.l10.map ofMat, b)
def Rc.isB (r : Rc) (s : ByteArray) : Bool := r.okB && ((tx r.bytes).toList == s.toList)
theorem get_end {r : Rc} (h : r.sz) (hb : r.l10.length ≤ 255) (s : ByteArray) {k : Nat} (hk : 600 ≤ k) :
    ((foghornref17_Right.f k r.k (r.l1.map ofLab) r.rt r.pl r.tr r.due r.st (r.l7.map ofLab) r.fr r.tt (r.l10.map ofMat)).bind fun t393 => (if t393 = true then ((foghornref17_Put.f k r.k (r.l1.map ofLab) r.rt r.pl r.tr r.due r.st (r.l7.map ofLab) r.fr r.tt (r.l10.map ofMat)).bind fun t394 => (some (r.tupB (t394.toList == s.toList)))) else (some (r.tupB false)))) = some (r.tupB (r.isB s)) := by
  rw [refRight_f h (by omega) (by omega), Option.bind_some]
  unfold Rc.isB
  cases ho : r.okB
  · rfl
  · rw [if_pos rfl, refPut_f ho (by omega), Option.bind_some]
    rfl
theorem get_one {s : ByteArray} {xs : List Lab} (hs : s.size ≤ 1000) (h0 : atN (bl s) 0 = 1) {k : Nat} (hk : 610 ≤ k) (hx : foghornref17_some.f k s 11 = some (xs.map ofLab)) (ho : LabsOk xs) :
    ∃ r : Rc, r = ⟨1, xs, atN (bl s) 1, atN (bl s) 2, atN (bl s) 3, ((timeF 6 0 ((bl s).drop 5, false)).1 : Nat), atN (bl s) 4, [], 0, 0, []⟩ ∧ foghornref17_Get.f k s = some (r.tupB (r.isB s)) := by
  refine ⟨_, rfl, ?_⟩
  unfold foghornref17_Get.f
  rw [show (0 : Int) = ((0 : Nat) : Int) from rfl, at_f, h0, Option.bind_some, if_pos (by omega), show (1 : Int) = ((1 : Nat) : Int) from rfl, at_f, Option.bind_some, show (2 : Int) = ((2 : Nat) : Int) from rfl, at_f, Option.bind_some, show (3 : Int) = ((3 : Nat) : Int) from rfl, at_f, Option.bind_some, show (4 : Int) = ((4 : Nat) : Int) from rfl, at_f, Option.bind_some, show (5 : Int) = ((5 : Nat) : Int) from rfl, time_f s 5 (by omega) (by omega), Option.bind_some, hx, Option.bind_some]
  obtain ⟨k, rfl⟩ : ∃ m, k = m + 2 := ⟨k - 2, by omega⟩
  simp only [foghornref17_Get.j0]
  rw [if_neg (by omega)]
  simp only [foghornref17_Get.j1]
  rw [if_neg (by omega)]
  exact get_end (r := ⟨1, xs, atN (bl s) 1, atN (bl s) 2, atN (bl s) 3, ((timeF 6 0 ((bl s).drop 5, false)).1 : Nat), atN (bl s) 4, [], 0, 0, []⟩) ⟨ho, (fun x hx => by cases hx), (fun x hx => by cases hx)⟩ (by simp) s (by omega)
theorem get_two {s : ByteArray} {xs : List Lab} (hs : s.size ≤ 1000) (h0 : atN (bl s) 0 = 2) {k : Nat} (hk : 610 ≤ k) (hx : foghornref17_some.f (k + 1) s 1 = some (xs.map ofLab)) (ho : LabsOk xs) :
    ∃ r : Rc, r = ⟨2, [], 0, 0, 0, 0, 0, xs, 0, 0, []⟩ ∧ foghornref17_Get.f (k + 2) s = some (r.tupB (r.isB s)) := by
  refine ⟨_, rfl, ?_⟩
  unfold foghornref17_Get.f
  rw [show foghornref17_at.f s 0 = some ((atN (bl s) 0 : Nat) : Int) from at_f s 0, h0, Option.bind_some, if_neg (by omega)]
  simp only [foghornref17_Get.j0]
  rw [if_pos (by omega), hx, Option.bind_some]
  simp only [foghornref17_Get.j1]
  rw [if_neg (by omega)]
  exact get_end (r := ⟨2, [], 0, 0, 0, 0, 0, xs, 0, 0, []⟩) ⟨(fun x hx => by cases hx), ho, (fun x hx => by cases hx)⟩ (by simp) s (by omega)
theorem get_three {s : ByteArray} {xs : List Mat} (hs : s.size ≤ 1000) (h0 : atN (bl s) 0 = 3) {k : Nat} (hk : 610 ≤ k) (hx : foghornref17_asked.f k s 13 = some (xs.map ofMat)) (ho : MatsOk xs) (hl : xs.length ≤ 255) :
    ∃ r : Rc, r = ⟨3, [], 0, 0, 0, 0, 0, [], ((timeF 6 0 ((bl s).drop 1, false)).1 : Nat), ((timeF 6 0 ((bl s).drop 7, false)).1 : Nat), xs⟩ ∧ foghornref17_Get.f (k + 2) s = some (r.tupB (r.isB s)) := by
  refine ⟨_, rfl, ?_⟩
  unfold foghornref17_Get.f
  rw [show foghornref17_at.f s 0 = some ((atN (bl s) 0 : Nat) : Int) from at_f s 0, h0, Option.bind_some, if_neg (by omega)]
  simp only [foghornref17_Get.j0]
  rw [if_neg (by omega)]
  simp only [foghornref17_Get.j1]
  rw [if_pos (by omega), show foghornref17_time.f k s 1 = _ from time_f s 1 (by omega) (by omega), Option.bind_some, show foghornref17_time.f k s 7 = _ from time_f s 7 (by omega) (by omega), Option.bind_some, hx, Option.bind_some]
  exact get_end (r := ⟨3, [], 0, 0, 0, 0, 0, [], ((timeF 6 0 ((bl s).drop 1, false)).1 : Nat), ((timeF 6 0 ((bl s).drop 7, false)).1 : Nat), xs⟩) ⟨(fun x hx => by cases hx), (fun x hx => by cases hx), ho⟩ hl s (by omega)
theorem get_other {s : ByteArray} (hs : s.size ≤ 1000) (h1 : atN (bl s) 0 ≠ 1) (h2 : atN (bl s) 0 ≠ 2) (h3 : atN (bl s) 0 ≠ 3) {k : Nat} (hk : 610 ≤ k) :
    ∃ r : Rc, r = ⟨atN (bl s) 0, [], 0, 0, 0, 0, 0, [], 0, 0, []⟩ ∧ foghornref17_Get.f k s = some (r.tupB (r.isB s)) := by
  refine ⟨_, rfl, ?_⟩
  unfold foghornref17_Get.f
  rw [show foghornref17_at.f s 0 = some ((atN (bl s) 0 : Nat) : Int) from at_f s 0, Option.bind_some, if_neg (by omega)]
  obtain ⟨k, rfl⟩ : ∃ m, k = m + 2 := ⟨k - 2, by omega⟩
  simp only [foghornref17_Get.j0]
  rw [if_neg (by omega)]
  simp only [foghornref17_Get.j1]
  rw [if_neg (by omega)]
  exact get_end (r := ⟨atN (bl s) 0, [], 0, 0, 0, 0, 0, [], 0, 0, []⟩) ⟨(fun x hx => by cases hx), (fun x hx => by cases hx), (fun x hx => by cases hx)⟩ (by simp) s (by omega)
theorem refGet_some (s : ByteArray) (hs : s.size ≤ 1000) {k : Nat} (hk : 620 ≤ k) : ∃ r : Rc, r.l10.length ≤ 255 ∧ foghornref17_Get.f k s = some (r.tupB (r.isB s)) := by
  by_cases h1 : atN (bl s) 0 = 1
  · obtain ⟨ys, hy, ho⟩ := some_some s 11 (by omega) hs (show 600 ≤ k by omega)
    obtain ⟨r, hr, h⟩ := get_one hs h1 (k := k) (by omega) hy ho
    exact ⟨r, by rw [hr]; simp, h⟩
  · by_cases h2 : atN (bl s) 0 = 2
    · obtain ⟨k, rfl⟩ : ∃ m, k = m + 2 := ⟨k - 2, by omega⟩
      obtain ⟨ys, hy, ho⟩ := some_some s 1 (by omega) hs (show 600 ≤ k + 1 by omega)
      obtain ⟨r, hr, h⟩ := get_two (k := k) hs h2 (by omega) hy ho
      exact ⟨r, by rw [hr]; simp, h⟩
    · by_cases h3 : atN (bl s) 0 = 3
      · obtain ⟨k, rfl⟩ : ∃ m, k = m + 2 := ⟨k - 2, by omega⟩
        obtain ⟨ys, hy, ho, hl⟩ := asked_some s 13 (by omega) hs (show 600 ≤ k by omega)
        obtain ⟨r, hr, h⟩ := get_three (k := k) hs h3 (by omega) hy ho hl
        exact ⟨r, by rw [hr]; exact hl, h⟩
      · obtain ⟨r, hr, h⟩ := get_other (k := k) hs h1 h2 h3 (by omega)
        exact ⟨r, by rw [hr]; simp, h⟩
theorem okB_cases {r : Rc} (h : r.okB = true) :
    (r.k = 1 ∧ dutyB r = true ∧ r = ⟨1, r.l1, r.rt, r.pl, r.tr, r.due, r.st, [], 0, 0, []⟩) ∨
    (r.k = 2 ∧ labsB r.l7 = true ∧ r = ⟨2, [], 0, 0, 0, 0, 0, r.l7, 0, 0, []⟩) ∨
    (r.k = 3 ∧ hushB r.fr r.tt r.l10 = true ∧ r = ⟨3, [], 0, 0, 0, 0, 0, [], r.fr, r.tt, r.l10⟩) := by
  unfold Rc.okB at h
  obtain ⟨k, l1, a2, a3, a4, a5, a6, l7, a8, a9, l10⟩ := r
  simp only [noHushB, noDutyB] at h
  by_cases e1 : k = 1
  · rw [if_pos e1] at h
    simp only [Bool.and_eq_true, decide_eq_true_eq] at h
    left
    have hd := h.1.1
    obtain ⟨⟨_, h2⟩, h3⟩ := h
    subst e1
    refine ⟨rfl, hd, ?_⟩
    simp [h2, h3]
  · rw [if_neg e1] at h
    by_cases e2 : k = 2
    · rw [if_pos e2] at h
      simp only [Bool.and_eq_true, decide_eq_true_eq] at h
      right
      left
      simp [e2, h]
    · rw [if_neg e2] at h
      by_cases e3 : k = 3
      · rw [if_pos e3] at h
        simp only [Bool.and_eq_true, decide_eq_true_eq] at h
        right
        right
        simp [e3, h]
      · rw [if_neg e3] at h
        cases h
theorem labsOk_of {l : List Lab} (h : labsB l = true) : LabsOk l := fun x hx => by
  have := (labsB_few h).2.2 x hx
  unfold maxLen
  omega
theorem sz_of {r : Rc} (h : r.okB = true) : r.sz := by
  rcases okB_cases h with ⟨hk, hd, hr⟩ | ⟨hk, hd, hr⟩ | ⟨hk, hd, hr⟩
  · rw [hr]
    refine ⟨labsOk_of ?_, (fun x hx => by cases hx), (fun x hx => by cases hx)⟩
    simp only [dutyB, Bool.and_eq_true] at hd
    exact hd.1.1.1.2
  · rw [hr]
    exact ⟨(fun x hx => by cases hx), labsOk_of hd, (fun x hx => by cases hx)⟩
  · rw [hr]
    refine ⟨(fun x hx => by cases hx), (fun x hx => by cases hx), fun x hx => ?_⟩
    have := matB_few ((hushB_few hd).2.2.2.2.2 x hx)
    unfold maxLen
    omega
theorem numsB_of {a b c : Int} (h : numsB a b c = true) : 0 ≤ a ∧ a < 4 ∧ 0 ≤ b ∧ b < 4 ∧ 0 ≤ c ∧ c ≤ 99 := by
  simp only [numsB, Bool.and_eq_true, decide_eq_true_eq] at h
  omega
theorem dutyB_of {r : Rc} (h : dutyB r = true) : (0 ≤ r.rt ∧ r.rt < 4 ∧ 0 ≤ r.pl ∧ r.pl < 4 ∧ 0 ≤ r.tr ∧ r.tr ≤ 99) ∧ labsB r.l1 = true ∧ tickB r.due = true ∧ 1 ≤ r.st ∧ r.st ≤ 3 := by
  simp only [dutyB, Bool.and_eq_true, decide_eq_true_eq] at h
  exact ⟨numsB_of h.1.1.1.1, h.1.1.1.2, h.1.1.2, h.1.2, h.2⟩
theorem flatL_le {xs : List Lab} (h : labsB xs = true) : (labsW xs).length ≤ 55 := by
  have hf := labsB_few h
  have := flat_le labT2 18 xs (fun x hx => by
    have := hf.2.2 x hx
    simp only [labT2, List.length_append, textB_len]; omega)
  simp only [labsW, List.length_cons]
  omega
theorem flatM_le {f t : Int} {xs : List Mat} (h : hushB f t xs = true) : (matsW xs).length ≤ 77 := by
  have hf := hushB_few h
  have := flat_le matT2 19 xs (fun x hx => by
    have := matB_few (hf.2.2.2.2.2 x hx)
    simp only [matT2, List.length_cons, List.length_append, textB_len]; omega)
  simp only [matsW, List.length_cons]
  omega
theorem bytes_one {r : Rc} (h : r.k = 1) : r.bytes = Go.Proofs.Ytndgollcganhmaa.u8 1 :: Go.Proofs.Ytndgollcganhmaa.u8 r.rt :: Go.Proofs.Ytndgollcganhmaa.u8 r.pl :: Go.Proofs.Ytndgollcganhmaa.u8 r.tr :: Go.Proofs.Ytndgollcganhmaa.u8 r.st :: (sixB r.due ++ labsW r.l1) := by
  unfold Rc.bytes putW
  rw [if_pos h]
  rfl
theorem bytes_two {r : Rc} (h : r.k = 2) : r.bytes = Go.Proofs.Ytndgollcganhmaa.u8 2 :: labsW r.l7 := by
  unfold Rc.bytes putW
  rw [if_neg (by omega), if_pos h]
  rfl
theorem bytes_three {r : Rc} (h : r.k = 3) : r.bytes = Go.Proofs.Ytndgollcganhmaa.u8 3 :: (sixB r.fr ++ (sixB r.tt ++ matsW r.l10)) := by
  unfold Rc.bytes putW
  rw [if_neg (by omega), if_neg (by omega), h]
  rfl
theorem bytes_le {r : Rc} (h : r.okB = true) : r.bytes.length ≤ 90 := by
  rcases okB_cases h with ⟨hk, hd, hr⟩ | ⟨hk, hd, hr⟩ | ⟨hk, hd, hr⟩
  · have := flatL_le (dutyB_of hd).2.1
    rw [bytes_one hk]
    simp only [List.length_cons, List.length_append, sixB_len]
    omega
  · have := flatL_le hd
    rw [bytes_two hk]
    simp only [List.length_cons]
    omega
  · have := flatM_le hd
    rw [bytes_three hk]
    simp only [List.length_cons, List.length_append, sixB_len]
    omega
theorem refGet_put {r : Rc} (ho : r.okB = true) {k : Nat} (hk : 620 ≤ k) : foghornref17_Get.f k (tx r.bytes) = some (r.tupB true) := by
  have hs : (tx r.bytes).size ≤ 1000 := by
    have := bytes_le ho
    rw [tx_size]
    omega
  have hi : r.isB (tx r.bytes) = true := by simp [Rc.isB, ho]
  have hbl : bl (tx r.bytes) = r.bytes := tx_data _
  obtain ⟨k, rfl⟩ : ∃ m, k = m + 2 := ⟨k - 2, by omega⟩
  rcases okB_cases ho with ⟨hk1, hd, hr⟩ | ⟨hk1, hd, hr⟩ | ⟨hk1, hd, hr⟩
  · have hb := bytes_one hk1
    have hq := dutyB_of hd
    have hf := labsB_few hq.2.1
    have ht := tickB_of hq.2.2.1
    have a0 := at_cons (l := bl (tx r.bytes)) (i := 0) (by rw [hbl]; exact hb)
    have a1 := at_cons a0.2
    have a2 := at_cons a1.2
    have a3 := at_cons a2.2
    have a4 := at_cons a3.2
    have a11 : (bl (tx r.bytes)).drop 11 = labsW r.l1 ++ [] := by rw [hbl, hb]; simp [sixB]
    obtain ⟨r', hr', h⟩ := get_one (k := k + 2) hs (by rw [a0.1, u8_tn]; rfl) (by omega) (some_app (by omega) hs (by omega) (fun x hx => by have := hf.2.2 x hx; omega) a11 (by omega)) (labsOk_of hq.2.1)
    have a5 : timeF 6 0 ((bl (tx r.bytes)).drop 5, false) = (r.due.toNat, (labsW r.l1, false)) := by rw [a4.2]; exact timeF_app ht.1 ht.2 _ _
    rw [a5] at hr'
    have : r' = r := by
      rw [hr']
      refine Eq.trans ?_ hr.symm
      simp only [Rc.mk.injEq, a1.1, a2.1, a3.1, a4.1, u8_tn, true_and, and_true]
      omega
    rw [h, this, hi]
  · have hb := bytes_two hk1
    have hf := labsB_few hd
    have a0 := at_cons (l := bl (tx r.bytes)) (i := 0) (by rw [hbl]; exact hb)
    have a1 : (bl (tx r.bytes)).drop 1 = labsW r.l7 ++ [] := by rw [hbl, hb]; simp
    obtain ⟨r', hr', h⟩ := get_two (k := k) hs (by rw [a0.1, u8_tn]; rfl) (by omega) (some_app (by omega) hs (by omega) (fun x hx => by have := hf.2.2 x hx; omega) a1 (by omega)) (labsOk_of hd)
    have : r' = r := by rw [hr', ← hr]
    rw [h, this, hi]
  · have hb := bytes_three hk1
    have hf := hushB_few hd
    have ht := tickB_of hf.1
    have hu := tickB_of hf.2.1
    have a0 := at_cons (l := bl (tx r.bytes)) (i := 0) (by rw [hbl]; exact hb)
    have a7 : (bl (tx r.bytes)).drop 7 = sixB r.tt ++ matsW r.l10 := by rw [hbl, hb]; simp [sixB]
    have a13 : (bl (tx r.bytes)).drop 13 = matsW r.l10 ++ [] := by rw [hbl, hb]; simp [sixB]
    have hz := sz_of ho
    obtain ⟨r', hr', h⟩ := get_three (k := k) hs (by rw [a0.1, u8_tn]; rfl) (by omega) (asked_app (by omega) hs (by omega) (fun x hx => by have := matB_few (hf.2.2.2.2.2 x hx); omega) a13 (by omega)) hz.2.2 (by omega)
    have b1 : timeF 6 0 ((bl (tx r.bytes)).drop 1, false) = (r.fr.toNat, (sixB r.tt ++ matsW r.l10, false)) := by rw [a0.2]; exact timeF_app ht.1 ht.2 _ _
    have b7 : timeF 6 0 ((bl (tx r.bytes)).drop 7, false) = (r.tt.toNat, (matsW r.l10, false)) := by rw [a7]; exact timeF_app hu.1 hu.2 _ _
    rw [b1, b7] at hr'
    have : r' = r := by
      rw [hr']
      refine Eq.trans ?_ hr.symm
      simp only [Rc.mk.injEq, true_and, and_true]
      omega
    rw [h, this, hi]
end Go.Proofs.YtndgollcganhmaaQ.P
namespace Go.Proofs.YtndgollcganhmaaQ.P
open Go.RowKit Go.Proofs.YtndgollcganhmaaW.PrintWords Go.Proofs.Ytndgollcganhmaa
theorem labsW_num {xs : List Lab} (h : xs.length < 256) (hx : ∀ x ∈ xs, x.name.size < 256 ∧ x.value.size < 256) : numF (labsW xs, false) = (xs.length, (xs.flatMap labT2, false)) ∧ labsF xs.length [] (xs.flatMap labT2, false) = (xs, ([], false)) := by
  refine ⟨numF_u8 h _ _, ?_⟩
  have := labsF_app xs [] [] hx
  rwa [List.append_nil, List.nil_append] at this
theorem matsW_num {xs : List Mat} (h : xs.length < 256) (hx : ∀ x ∈ xs, 0 ≤ x.kind ∧ x.kind < 256 ∧ x.name.size < 256 ∧ x.value.size < 256) : numF (matsW xs, false) = (xs.length, (xs.flatMap matT2, false)) ∧ matsF xs.length [] (xs.flatMap matT2, false) = (xs, ([], false)) := by
  refine ⟨numF_u8 h _ _, ?_⟩
  have := matsF_app xs [] [] hx
  rwa [List.append_nil, List.nil_append] at this
theorem getP_put {r : Rc} (ho : r.okB = true) : getP r.bytes = (r, ([], false)) := by
  unfold getP
  rcases okB_cases ho with ⟨hk1, hd, hr⟩ | ⟨hk1, hd, hr⟩ | ⟨hk1, hd, hr⟩
  · have hq := dutyB_of hd
    have hf := labsB_few hq.2.1
    have ht := tickB_of hq.2.2.1
    have hw := labsW_num (xs := r.l1) (by omega) (fun x hx => by have := hf.2.2 x hx; omega)
    have e0 := fun t => numF_u8i (n := 1) (by omega) (by omega) t false
    have e1 := fun t => numF_u8i (n := r.rt) (by omega) (by omega) t false
    have e2 := fun t => numF_u8i (n := r.pl) (by omega) (by omega) t false
    have e3 := fun t => numF_u8i (n := r.tr) (by omega) (by omega) t false
    have e4 := fun t => numF_u8i (n := r.st) (by omega) (by omega) t false
    have e5 := fun q => timeF_app ht.1 ht.2 q false
    rw [bytes_one hk1]
    simp only [e0, Int.toNat_one, if_true, numK, e1, e2, e3, e4, e5, hw.1, hw.2]
    refine Prod.ext (Eq.trans ?_ hr.symm) rfl
    simp only [Rc.mk.injEq, true_and, and_true]
    omega
  · have hf := labsB_few hd
    have hw := labsW_num (xs := r.l7) (by omega) (fun x hx => by have := hf.2.2 x hx; omega)
    have e0 := fun t => numF_u8i (n := 2) (by omega) (by omega) t false
    rw [bytes_two hk1]
    simp only [e0, Int.reduceToNat, if_true, hw.1, hw.2]
    rw [if_neg (by omega)]
    exact Prod.ext hr.symm rfl
  · have hf := hushB_few hd
    have ht := tickB_of hf.1
    have hu := tickB_of hf.2.1
    have hw := matsW_num (xs := r.l10) (by omega) (fun x hx => by have := matB_few (hf.2.2.2.2.2 x hx); omega)
    have e0 := fun t => numF_u8i (n := 3) (by omega) (by omega) t false
    have e5 := fun q => timeF_app ht.1 ht.2 q false
    have e6 := fun q => timeF_app hu.1 hu.2 q false
    rw [bytes_three hk1]
    simp only [e0, Int.reduceToNat, if_true, e5, e6, hw.1, hw.2]
    rw [if_neg (by omega), if_neg (by omega)]
    refine Prod.ext (Eq.trans ?_ hr.symm) rfl
    simp only [Rc.mk.injEq, true_and, and_true]
    omega
theorem getP_back {l : List UInt8} (h0 : (getP l).2.2 = false) (h1 : (getP l).2.1 = []) (ho : (getP l).1.okB = true) : (getP l).1.bytes = l := by
  unfold getP at h0 h1 ho ⊢
  by_cases k1 : (numF (l, false)).1 = 1
  · simp only [k1, if_true, numK] at h0 h1 ho ⊢
    rw [bytes_one rfl]
    obtain ⟨ys, g1, g2, g3, g4⟩ := labsF_back _ _ _ h0
    rw [h1, List.append_nil] at g3
    rw [List.nil_append] at g1
    have t1 := numF_back g4
    have t2 := timeF_six t1.2
    have n4 := numF_back t2.2
    have n3 := numF_back n4.2
    have n2 := numF_back n3.2
    have n1 := numF_back n2.2
    have n0 := numF_back n1.2
    rw [k1] at n0
    simp only
    rw [g1, labsW, g2, ← g3, ← t1.1, ← t2.1, ← n4.1, ← n3.1, ← n2.1, ← n1.1]
    exact n0.1.symm
  · by_cases k2 : (numF (l, false)).1 = 2
    · simp only [k2, if_true, Nat.reduceEqDiff, if_false] at h0 h1 ho ⊢
      rw [bytes_two rfl]
      obtain ⟨ys, g1, g2, g3, g4⟩ := labsF_back _ _ _ h0
      rw [h1, List.append_nil] at g3
      rw [List.nil_append] at g1
      have t1 := numF_back g4
      have n0 := numF_back t1.2
      rw [k2] at n0
      simp only
      rw [g1, labsW, g2, ← g3, ← t1.1]
      exact n0.1.symm
    · by_cases k3 : (numF (l, false)).1 = 3
      · simp only [k3, if_true, Nat.reduceEqDiff, if_false] at h0 h1 ho ⊢
        rw [bytes_three rfl]
        obtain ⟨ys, g1, g2, g3, g4⟩ := matsF_back _ _ _ h0
        rw [h1, List.append_nil] at g3
        rw [List.nil_append] at g1
        have t1 := numF_back g4
        have t2 := timeF_six t1.2
        have t3 := timeF_six t2.2
        have n0 := numF_back t3.2
        rw [k3] at n0
        simp only
        rw [g1, matsW, g2, ← g3, ← t1.1, ← t2.1, ← t3.1]
        exact n0.1.symm
      · simp only [k1, k2, k3, if_false] at ho
        exfalso
        rcases okB_cases ho with ⟨hk1, _, _⟩ | ⟨hk1, _, _⟩ | ⟨hk1, _, _⟩ <;> (simp only at hk1; omega)
theorem textF_short (r : Rst) : (textF r).1.length ≤ 255 := by
  unfold textF
  rw [takeF_len]
  exact numF_le r
theorem labsF_ok : ∀ (n : Nat) (acc : List Lab) (r : Rst), LabsOk acc → LabsOk (labsF n acc r).1
  | 0, _, _, h => h
  | n + 1, acc, r, h => by
    unfold labsF
    split
    · exact h
    · refine labsF_ok n _ _ fun x hx => ?_
      rcases List.mem_append.1 hx with hx | hx
      · exact h x hx
      · obtain rfl := List.mem_singleton.1 hx
        have h1 := textF_short r
        have h2 := textF_short (textF r).2
        unfold maxLen labF
        simp only [tx_size]
        omega
theorem matsF_ok : ∀ (n : Nat) (acc : List Mat) (r : Rst), MatsOk acc → MatsOk (matsF n acc r).1
  | 0, _, _, h => h
  | n + 1, acc, r, h => by
    unfold matsF
    split
    · exact h
    · refine matsF_ok n _ _ fun x hx => ?_
      rcases List.mem_append.1 hx with hx | hx
      · exact h x hx
      · obtain rfl := List.mem_singleton.1 hx
        have h1 := textF_short (numF r).2
        have h2 := textF_short (textF (numF r).2).2
        unfold maxLen matF
        simp only [tx_size]
        omega
theorem getP_sz (l : List UInt8) : (getP l).1.sz := by
  have nl : LabsOk [] := fun x hx => by cases hx
  have nm : MatsOk [] := fun x hx => by cases hx
  unfold getP
  simp only
  split
  · exact ⟨labsF_ok _ _ _ nl, nl, nm⟩
  · split
    · exact ⟨nl, labsF_ok _ _ _ nl, nm⟩
    · split
      · exact ⟨nl, nl, matsF_ok _ _ _ nm⟩
      · exact ⟨nl, nl, nm⟩
def getOk (l : List UInt8) : Bool := !((getP l).2.2 || !(getP l).2.1.isEmpty || !(getP l).1.okB)
theorem getOk_of {l : List UInt8} (h : getOk l = true) : (getP l).1.okB = true ∧ (getP l).1.bytes = l := by
  simp only [getOk, Bool.not_eq_true', Bool.or_eq_false_iff, Bool.not_eq_false', List.isEmpty_iff] at h
  exact ⟨h.2, getP_back h.1.1 h.1.2 h.2⟩
theorem getOk_put {r : Rc} (ho : r.okB = true) : getOk r.bytes = true := by
  unfold getOk
  rw [getP_put ho, ho]
  rfl
def Rc.tupE (r : Rc) (e : Int) : Int × (List S41) × Int × Int × Int × Int × Int × (List S41) × Int × Int × (List S35) × Int :=
  (r.k, r.l1.map ofLab, r.rt, r.pl, r.tr, r.due, r.st, r.l7.map ofLab, r.fr, r.tt, r.l10.map ofMat, e)
theorem get_f {s : ByteArray} (hs : s.size ≤ 100000) : code_Get.f s = some (if getOk (bl s) = true then (getP (bl s)).1.tupE 0 else Rc.zero.tupE 13) := by
  unfold code_Get.f
  rw [if_pos hs, right_f (getP_sz _)]
  simp only [getOk, bl]
  by_cases hq : ((getP s.data.toList).2.2 || !(getP s.data.toList).2.1.isEmpty || !(getP s.data.toList).1.okB) = true
  · simp only [hq, if_true]
    rfl
  · have hq' : ((getP s.data.toList).2.2 || !(getP s.data.toList).2.1.isEmpty || !(getP s.data.toList).1.okB) = false := by simpa using hq
    simp only [hq', if_false]
    rfl
theorem toList_tx (l : List UInt8) : (⟨l.toArray⟩ : ByteArray).toList = l := by
  rw [ByteArray.toList_eq]
theorem alive17_f : foghornlaw17_alive.f = some true := by
  have ho : (⟨2, [], 0, 0, 0, 0, 0, [⟨⟨#[97]⟩, ⟨#[120]⟩⟩], 0, 0, []⟩ : Rc).okB = true := by decide
  have hp := put_ok (sz_of ho) ho
  have hb : (⟨2, [], 0, 0, 0, 0, 0, [⟨⟨#[97]⟩, ⟨#[120]⟩⟩], 0, 0, []⟩ : Rc).bytes = [2, 1, 1, 97, 1, 120] := by decide
  have hg := getP_put ho
  have hk := getOk_put ho
  rw [hb] at hp hg hk
  unfold foghornlaw17_alive.f
  rw [show code_Put.f 2 ([] : List S41) 0 0 0 0 0 [⟨⟨#[97]⟩, ⟨#[120]⟩⟩] 0 0 ([] : List S35) = _ from hp, Option.bind_some, get_f (by decide), Option.bind_some]
  simp only [bl]
  rw [hk, hg]
  simp only [if_true, Rc.tupE]
  rw [if_pos (by rw [toList_tx [2, 1, 1, 97, 1, 120]])]
  rfl
end Go.Proofs.YtndgollcganhmaaQ.P
namespace Go.Proofs.YtndgollcganhmaaQ.P
open Go.RowKit Go.Proofs.YtndgollcganhmaaW.PrintWords Go.Proofs.Ytndgollcganhmaa
theorem tx_toList (l : List UInt8) : (tx l).toList = l := toList_tx l
theorem cut130 (s : ByteArray) : s.extract 0 (mn (s.size : Int) 130).toNat = cutB 130 s := cutB_mn 130 130 s rfl
theorem codeGets_pure (a0 : ByteArray) : foghornlaw17_CodeGets.f 1000 a0 = some true := by
  unfold foghornlaw17_CodeGets.f
  have e := mn_eq (a0.size : Int) 130
  rw [if_pos (by omega), if_pos (by omega), cut130]
  have hz := cutB_size 130 a0
  generalize cutB 130 a0 = s at hz ⊢
  obtain ⟨q, hq, hg⟩ := refGet_some s (by omega) (show 620 ≤ 1000 by omega)
  rw [get_f (by omega), Option.bind_some, hg, Option.bind_some]
  simp only [Rc.tupB]
  rw [alive17_f, Option.bind_some, if_pos rfl]
  cases hi : q.isB s
  · have hn : getOk (bl s) = false := by
      cases hk : getOk (bl s)
      · rfl
      · exfalso
        obtain ⟨h1, h2⟩ := getOk_of hk
        have h3 := refGet_put h1 (show 620 ≤ 1000 by omega)
        rw [h2, show tx (bl s) = s from tx_of s, hg] at h3
        simp only [Rc.tupB, Option.some.injEq, Prod.mk.injEq, hi] at h3
        exact absurd h3.2.2.2.2.2.2.2.2.2.2.2 (by simp)
    rw [hn]
    simp only [Bool.false_eq_true, if_false, Rc.tupE, Option.bind_some, if_true]
    have := same_f Rc.zero Rc.zero (by simp [Rc.zero]) (k := 1000) (by simp [Rc.zero])
    rw [show foghornref17_Same.f 1000 Rc.zero.k (Rc.zero.l1.map ofLab) Rc.zero.rt Rc.zero.pl Rc.zero.tr Rc.zero.due Rc.zero.st (Rc.zero.l7.map ofLab) Rc.zero.fr Rc.zero.tt (Rc.zero.l10.map ofMat) 0 [] 0 0 0 0 0 [] 0 0 [] = _ from this]
    simp
  · simp only [Rc.isB, Bool.and_eq_true, beq_iff_eq, tx_toList] at hi
    have hb : q.bytes = bl s := by rw [hi.2, ByteArray.toList_eq]
    have hk : getOk (bl s) = true := by rw [← hb]; exact getOk_put hi.1
    have hp : getP (bl s) = (q, ([], false)) := by rw [← hb]; exact getP_put hi.1
    rw [hk, hp]
    simp only [if_true, Rc.tupE, Option.bind_some]
    rw [same_f q q (by omega) (by omega)]
    simp
theorem CodeGets_walk (a0 : ByteArray) (w : World) (h : a0.size ≤ maxLen) :
    Calls Try.prog 7 #[.string a0] w fun e w' => e = .returned (.bool true) ∧ Below w.heap.size w w' :=
  foghornlaw17_CodeGets.calls 1000 a0 true w (codeGets_pure a0)
end Go.Proofs.YtndgollcganhmaaQ.P
namespace Go.Proofs.Ytndgollcganhmaa
open Go.RowKit Go.ChangeShapes Go.WideShapes Go.ChangeAt Go.Proofs.YtndgollcganhmaaW.PrintWords
def Opens (P : Program) (W : World) (t : TypeId) {α : Type} (d : Kd α) (Q : α → Prop) : Prop :=
  ∀ {H : Type} (enc : TypeId × Value → H) (base : Nat) (spare : Nat → Bool) (held : Bool) (fuel : Nat) (cs : List Value) (y : DataW H × List MemPlace), DataW.trod enc P W base spare held fuel t cs = some y → cs.length = d.sz → ∃ x, d.K W x cs ∧ Q x
section
variable {P : Program} {W : World} {t e : TypeId} {α β : Type} {d : Kd α} {Q : α → Prop}
theorem Opens.imp {Q' : α → Prop} (h : Opens P W t d Q) (hq : ∀ x, Q x → Q' x) : Opens P W t d Q' := by
  intro H enc base spare held fuel cs y hy hl
  obtain ⟨x, hk, hx⟩ := h enc base spare held fuel cs y hy hl
  exact ⟨x, hk, hq x hx⟩
end
end Go.Proofs.Ytndgollcganhmaa
namespace Go.Proofs.Ytndgollcganhmaa.codeGets
open Go.ChangeShapes Go.WideShapes Go.ChangeAt Go.RowKit Go.Proofs.YtndgollcganhmaaQ.P
open Go.ChangeMaps (open_string shut_string)
theorem own : ownKnob Try.prog.godebug = none := by kernel_rfl
theorem laidOut : laidOutB Try.prog = true := by kernel_rfl
set_option maxRecDepth 100000 in
theorem lifted (os : Os) (started : os.Started) (H : Type) (enc : TypeId × Value → H) :
    ReturnsInHanded {} Try.checked os 7 .any (Rows.codeGetsSpec.pre6 enc Try.prog Try.f7 Rows.codeGetsRow.domain false) (Rows.codeGetsSpec.post enc Try.prog Try.f7 false true false false) := by
  refine returnsInHanded_of_change (C := Try.checked) own started (by kernel_rfl) Try.func7
    (ChangeSpec.witness6 (enc := enc) (C := Try.checked) false ⟨#[], #[.string ByteArray.empty], []⟩ 8 (by kernel_rfl) (by kernel_rfl) (by kernel_rfl) (by kernel_rfl)) ?_
  intro W base args ds gs before hval0 hW hcnd _
  have hval : ∀ (j : Nat) t v, Try.f7.params[j]? = some t → args[j]? = some v → Value.okWide Try.prog W .any base t v := hval0
  have hW' := hW
  obtain ⟨p, q, hA0, hV, rfl, hfz, hnd⟩ := hW
  have hA : DataW.TrodAll enc Try.prog W 0 (fun _ => true) true Try.f7.params.toList args.toList ds p := hA0
  rw [Try.params7] at hA hval
  obtain ⟨v0, vs0, d0, ds0, p0, q0, hargs, rfl, rfl, h0, r0⟩ := trodAll_cons hA
  obtain ⟨rfl, rfl, rfl⟩ := trodAll_nil r0
  obtain rfl : args = #[v0] := by cases args; simp_all
  obtain ⟨rfl, rfl⟩ := trodVars_none hV
  have lt0 : ∀ x ∈ p0, x.block < W.heap.size := by obtain ⟨m, hm⟩ := h0; exact DataW.trod_lt m _ _ _ hm
  have k0 := h0
  obtain ⟨a0, rfl, rfl, rfl, w0⟩ := open_string Try.underlying9 (hval 0 9 v0 rfl rfl) h0
  clear hA0 hval0
  refine (CodeGets_walk a0 W w0).mono fun e W' ⟨he, bel⟩ => ?_
  subst he
  exact ⟨_, rfl, _, _, _, [], _, [], hW', trodAll_mk1 (shut_bool Try.underlying4 _), (trodAll_cons_mk (Below.trod laidOut (by kernel_rfl) (of_decide_eq_true (by kernel_rfl)) k0 bel lt0) trodAll_mk0), rfl, bel.frame _, fun h => by cases h⟩
theorem over : Rows.codeGetsRow.holds Try.pinned (OpenSpec.ofChange Rows.codeGetsSpec) :=
  OpenClaim.holds_of_wide 7 Try.f7 rfl rfl rfl rfl rfl rfl rfl ⟨rfl, rfl, rfl, rfl, rfl⟩ rfl rfl rfl rfl rfl (by kernel_rfl) Try.func7 (by kernel_rfl)
    (of_decide_eq_true (by kernel_rfl)) (by unfold Func.isWrapper; first | (rw [if_pos (by decide +kernel)]; kernel_rfl) | (rw [if_neg (by decide +kernel)]; exact ⟨rfl, rfl⟩))
    (fun os started H enc _ => lifted os started H enc)
end Go.Proofs.Ytndgollcganhmaa.codeGets
namespace Go.Proofs.Ytndgollcganhmaa
theorem codeGets_holds : Rows.CodeGetsSaid := codeGets.over
#print axioms codeGets_holds
end Go.Proofs.Ytndgollcganhmaa
