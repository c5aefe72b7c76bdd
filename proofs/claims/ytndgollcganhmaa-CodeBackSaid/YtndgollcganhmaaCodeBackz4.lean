/- The statement 'CodeBack': for every input the law returns true, and each argument reads behind the call as it read before. No condition. -/
import Derived.Deep.RegionHeld3
import Derived.WideShapes
import Derived.Test.YtndgollcganhmaaRows
import Derived.WalkKit
import Derived.ProofKit
import Derived.OpenShut
import Derived.ShutString
import Derived.Below
import Derived.Carry
import Derived.Test.YtndgollcganhmaaCodeBackz1
import Derived.Test.YtndgollcganhmaaCodeBackz2
import Derived.Test.YtndgollcganhmaaCodeBackz3
set_option linter.unusedVariables false
set_option linter.unusedSimpArgs false
namespace Go.Proofs.YtndgollcganhmaaQ.P
open Go.RowKit Go.Proofs.YtndgollcganhmaaW.PrintWords Go.Proofs.Ytndgollcganhmaa
def numsB (rt pl tr : Int) : Bool := decide (0 ≤ rt) && decide (rt < 4) && decide (0 ≤ pl) && decide (pl < 4) && decide (0 ≤ tr) && decide (tr ≤ 99)
def dutyB (r : Rc) : Bool := numsB r.rt r.pl r.tr && labsB r.l1 && tickB r.due && decide (1 ≤ r.st) && decide (r.st ≤ 3)
def noDutyB (r : Rc) : Bool := decide (r.l1 = []) && decide (r.rt = 0) && decide (r.pl = 0) && decide (r.tr = 0) && decide (r.due = 0) && decide (r.st = 0)
def noHushB (r : Rc) : Bool := decide (r.fr = 0) && decide (r.tt = 0) && decide (r.l10 = [])
def Rc.okB (r : Rc) : Bool :=
  if r.k = 1 then dutyB r && decide (r.l7 = []) && noHushB r else if r.k = 2 then labsB r.l7 && noDutyB r && noHushB r else if r.k = 3 then hushB r.fr r.tt r.l10 && noDutyB r && decide (r.l7 = []) else false
def Rc.sz (r : Rc) : Prop := LabsOk r.l1 ∧ LabsOk r.l7 ∧ MatsOk r.l10
theorem labsOkB_of {l : List Lab} (h : LabsOk l) : labsOkB (l.map ofLab) = true := by
  simp only [labsOkB, List.all_eq_true, List.mem_map]
  rintro x ⟨y, hy, rfl⟩
  have := h y hy
  simp only [labOkB, ofLab, Bool.and_eq_true, decide_eq_true_eq]
  exact ⟨decide_eq_true this.1, decide_eq_true this.2⟩
theorem matsOkB_of {l : List Mat} (h : MatsOk l) : matsOkB (l.map ofMat) = true := by
  simp only [matsOkB, List.all_eq_true, List.mem_map]
  rintro x ⟨y, hy, rfl⟩
  have := h y hy
  simp only [matOkB, ofMat, Bool.and_eq_true, decide_eq_true_eq]
  exact ⟨decide_eq_true this.1, decide_eq_true this.2⟩
theorem labRight_f {l : List Lab} (h : LabsOk l) : label_Right.f (l.map ofLab) = some (labsB l) := by
  unfold label_Right.f
  rw [if_pos (labsOkB_of h), labs_to_of]
theorem isHush_f {f t : Int} {l : List Mat} (h : MatsOk l) : wire_isHush.f f t (l.map ofMat) = some (hushB f t l) := by
  unfold wire_isHush.f
  rw [if_pos (matsOkB_of h)]
  congr 2
  simp [Function.comp_def, to_of_mat]
theorem noDuty_f (r : Rc) : code_noDuty.f (r.l1.map ofLab) r.rt r.pl r.tr r.due r.st = some (noDutyB r) := by
  unfold code_noDuty.f noDutyB
  have h0 : (((r.l1.map ofLab).length : Int) = 0) = (r.l1 = []) := by simp
  simp only [h0]
  by_cases h1 : r.l1 = [] <;> by_cases h2 : r.rt = 0 <;> by_cases h3 : r.pl = 0 <;> by_cases h4 : r.tr = 0 <;> by_cases h5 : r.due = 0 <;> simp [h1, h2, h3, h4, h5]
  all_goals rw [Bool.eq_iff_iff]; simp
theorem noHush_f (r : Rc) : code_noHush.f r.fr r.tt (r.l10.map ofMat) = some (noHushB r) := by
  unfold code_noHush.f noHushB
  have h0 : (((r.l10.map ofMat).length : Int) == 0) = decide (r.l10 = []) := by rw [Bool.eq_iff_iff]; simp
  simp only [h0]
  by_cases h1 : r.fr = 0 <;> by_cases h2 : r.tt = 0 <;> simp [h1, h2]
theorem tick_f (t : Int) : tick_Right.f t = some (tickB t) := by
  unfold tick_Right.f tickB
  by_cases h : 0 ≤ t <;> simp [h]
theorem isDuty_f {r : Rc} (h : LabsOk r.l1) : code_isDuty.f (r.l1.map ofLab) r.rt r.pl r.tr r.due r.st = some (dutyB r) := by
  unfold code_isDuty.f dutyB numsB
  simp only [labRight_f h, tick_f, Option.bind_some, ge_iff_le]
  by_cases h1 : 0 ≤ r.rt <;> by_cases h2 : r.rt < 4 <;> by_cases h3 : 0 ≤ r.pl <;> by_cases h4 : r.pl < 4 <;> by_cases h5 : 0 ≤ r.tr <;> by_cases h6 : r.tr ≤ 99 <;> simp [h1, h2, h3, h4, h5, h6]
  cases labsB r.l1 <;> cases tickB r.due <;> by_cases h7 : 1 ≤ r.st <;> simp [h7]
theorem right_f {r : Rc} (h : r.sz) : r.right = some r.okB := by
  obtain ⟨h1, h2, h3⟩ := h
  have hw : wire_Right.f 2 [] r.fr r.tt (r.l10.map ofMat) = some (hushB r.fr r.tt r.l10) := by
    unfold wire_Right.f
    simp [isHush_f h3]
  have h7 : (((r.l7.map ofLab).length : Int) = 0) = (r.l7 = []) := by simp
  have h8 : (((r.l7.map ofLab).length : Int) == 0) = decide (r.l7 = []) := by rw [Bool.eq_iff_iff]; simp
  unfold Rc.right code_Right.f Rc.okB
  simp only [isDuty_f h1, noHush_f, noDuty_f, labRight_f h2, hw, Option.bind_some, h7, h8]
  by_cases e1 : r.k = 1
  · simp only [e1, if_true]
    cases dutyB r <;> by_cases e : r.l7 = [] <;> simp [e]
  · by_cases e2 : r.k = 2
    · simp only [e2, if_true]
      cases labsB r.l7 <;> cases noDutyB r <;> simp
    · by_cases e3 : r.k = 3
      · simp only [e3, if_true]
        cases hushB r.fr r.tt r.l10 <;> cases noDutyB r <;> simp
      · simp [e1, e2, e3]
theorem labsB_few {l : List Lab} (h : labsB l = true) : l.length ≤ 3 ∧ 1 ≤ l.length ∧ ∀ x ∈ l, x.name.size ≤ 8 ∧ x.value.size ≤ 8 := by
  simp only [labsB, eachB, Bool.and_eq_true, decide_eq_true_eq, Bool.not_eq_true', List.any_eq_false] at h
  refine ⟨h.2.1.2, h.2.1.1, fun x hx => ?_⟩
  have := h.2.2 x hx
  simp only [labB, nameB, valB, Bool.not_eq_true', Bool.not_eq_false, Bool.and_eq_true, decide_eq_true_eq] at this
  exact ⟨this.1.2, this.2.2⟩
theorem labsB_fewL {l : List Lab} (h : labsB l = true) : fewL l = true := by
  obtain ⟨h1, _, h2⟩ := labsB_few h
  simp only [fewL, Bool.and_eq_true, decide_eq_true_eq, List.all_eq_true]
  exact ⟨by omega, fun x hx => by have := h2 x hx; omega⟩
theorem hushB_few {f t : Int} {l : List Mat} (h : hushB f t l = true) : tickB f = true ∧ tickB t = true ∧ f < t ∧ 1 ≤ l.length ∧ l.length ≤ 4 ∧ ∀ x ∈ l, matB x = true := by
  simp only [hushB, Bool.and_eq_true, decide_eq_true_eq, Bool.not_eq_true', List.any_eq_false] at h
  exact ⟨h.1.1.1.1.1, h.1.1.1.1.2, h.1.1.1.2, h.1.1.2, h.1.2, fun x hx => by simpa using h.2 x hx⟩
theorem matB_few {x : Mat} (h : matB x = true) : 0 ≤ x.kind ∧ x.kind ≤ 3 ∧ x.name.size ≤ 8 ∧ x.value.size ≤ 8 := by
  simp only [matB, nameB, valB, Bool.and_eq_true, decide_eq_true_eq] at h
  exact ⟨h.1.1.1.1, h.1.1.1.2, h.1.1.2.2, h.1.2.2⟩
theorem hushB_fewM {f t : Int} {l : List Mat} (h : hushB f t l = true) : fewM l = true := by
  obtain ⟨_, _, _, _, h1, h2⟩ := hushB_few h
  simp only [fewM, Bool.and_eq_true, decide_eq_true_eq, List.all_eq_true]
  exact ⟨by omega, fun x hx => by have := matB_few (h2 x hx); omega⟩
def Rc.bytes (r : Rc) : List UInt8 := putW r.k r.l1 r.rt r.pl r.tr r.due r.st r.l7 r.fr r.tt r.l10
def Rc.put (r : Rc) : Option (ByteArray × Int) := code_Put.f r.k (r.l1.map ofLab) r.rt r.pl r.tr r.due r.st (r.l7.map ofLab) r.fr r.tt (r.l10.map ofMat)
theorem mats_to_of (xs : List Mat) : (xs.map ofMat).map toMat = xs := by simp [Function.comp_def, to_of_mat]
theorem put_ok {r : Rc} (h : r.sz) (ho : r.okB = true) : r.put = some (⟨r.bytes.toArray⟩, 0) := by
  have hr := right_f h
  unfold Rc.right at hr
  unfold Rc.put code_Put.f
  rw [hr, ho]
  simp only [Option.bind_some, if_true]
  have hp : code_put.f r.k (r.l1.map ofLab) r.rt r.pl r.tr r.due r.st (r.l7.map ofLab) r.fr r.tt (r.l10.map ofMat) = some ⟨r.bytes.toArray⟩ := by
    unfold code_put.f
    simp only [labs_to_of, mats_to_of]
    rw [if_pos]
    · rfl
    · unfold Rc.okB at ho
      by_cases e1 : r.k = 1
      · rw [if_pos e1] at ho ⊢
        simp only [dutyB, Bool.and_eq_true] at ho ⊢
        exact ⟨labsB_fewL ho.1.1.1.1.1.2, ho.1.1.1.1.2⟩
      · rw [if_neg e1] at ho ⊢
        by_cases e2 : r.k = 2
        · rw [if_pos e2] at ho ⊢
          simp only [Bool.and_eq_true] at ho
          exact labsB_fewL ho.1.1
        · rw [if_neg e2] at ho ⊢
          by_cases e3 : r.k = 3
          · rw [if_pos e3] at ho
            simp only [Bool.and_eq_true] at ho ⊢
            exact ⟨hushB_fewM ho.1.1, (hushB_few ho.1.1).1, (hushB_few ho.1.1).2.1⟩
          · rw [if_neg e3] at ho
            cases ho
  rw [hp]
  rfl
theorem put_no {r : Rc} (h : r.sz) (ho : r.okB = false) : r.put = some (⟨#[]⟩, 1) := by
  have hr := right_f h
  unfold Rc.right at hr
  unfold Rc.put code_Put.f
  rw [hr, ho]
  rfl
end Go.Proofs.YtndgollcganhmaaQ.P
namespace Go.Proofs.Ytndgollcganhmaa
open Go.RowKit
theorem u8_tn (x : Int) : (u8 x).toNat = (x % 256).toNat := by
  unfold u8
  rw [UInt8.toNat_ofNat']
  omega
theorem u8_nat {n : Nat} (h : n < 256) : (u8 (n : Int)).toNat = n := by
  rw [u8_tn]
  omega
theorem u8_of (c : UInt8) : u8 ((c.toNat : Nat) : Int) = c := by
  apply UInt8.toNat_inj.1
  rw [u8_tn]
  have := c.toNat_lt
  omega
theorem numF_u8 {n : Nat} (h : n < 256) (t : List UInt8) (b : Bool) : numF (u8 (n : Int) :: t, b) = (n, (t, b)) := by
  simp only [numF, u8_nat h]
theorem numF_u8i {n : Int} (h0 : 0 ≤ n) (h : n < 256) (t : List UInt8) (b : Bool) : numF (u8 n :: t, b) = (n.toNat, (t, b)) := by
  obtain ⟨m, rfl⟩ := Int.eq_ofNat_of_zero_le h0
  rw [numF_u8 (by omega)]
  simp
theorem takeF_app (x t : List UInt8) (b : Bool) : takeF x.length (x ++ t, b) = (x, (t, b)) := by
  unfold takeF
  rw [if_neg (by simp)]
  simp
theorem textF_app {s : ByteArray} (h : s.size < 256) (t : List UInt8) (b : Bool) : textF (textB s ++ t, b) = (s.data.toList, (t, b)) := by
  unfold textF textB
  rw [List.cons_append, numF_u8 h]
  rw [show s.size = s.data.toList.length from (len_data s).symm, takeF_app]
theorem timeF_app {t : Int} (h0 : 0 ≤ t) (h1 : t ≤ 1099511627776) (r : List UInt8) (b : Bool) : timeF 6 0 (sixB t ++ r, b) = (t.toNat, (r, b)) := by
  obtain ⟨m, rfl⟩ := Int.eq_ofNat_of_zero_le h0
  simp only [sixB, List.cons_append, List.nil_append, timeF, numF, u8_tn]
  refine Prod.ext ?_ rfl
  show _ = m
  simp only
  omega
theorem labF_app {x : Lab} (h1 : x.name.size < 256) (h2 : x.value.size < 256) (t : List UInt8) (b : Bool) : labF (labT2 x ++ t, b) = (x, (t, b)) := by
  unfold labF labT2
  rw [List.append_assoc, textF_app h1, textF_app h2]
  simp only [tx_of]
theorem labsF_app : ∀ (xs acc : List Lab) (t : List UInt8), (∀ x ∈ xs, x.name.size < 256 ∧ x.value.size < 256) → labsF xs.length acc (xs.flatMap labT2 ++ t, false) = (acc ++ xs, (t, false))
  | [], acc, t, _ => by simp [labsF]
  | x :: xs, acc, t, h => by
    have hx := h x (by simp)
    rw [List.length_cons, labsF, if_neg (by simp), List.flatMap_cons, List.append_assoc, labF_app hx.1 hx.2, labsF_app xs _ t fun y hy => h y (by simp [hy])]
    simp
theorem matF_app {m : Mat} (h0 : 0 ≤ m.kind) (h3 : m.kind < 256) (h1 : m.name.size < 256) (h2 : m.value.size < 256) (t : List UInt8) (b : Bool) : matF (matT2 m ++ t, b) = (m, (t, b)) := by
  unfold matF matT2
  rw [List.cons_append, List.append_assoc, numF_u8i h0 h3, textF_app h1, textF_app h2]
  simp only [tx_of]
  rw [Int.toNat_of_nonneg h0]
theorem matsF_app : ∀ (xs acc : List Mat) (t : List UInt8), (∀ x ∈ xs, 0 ≤ x.kind ∧ x.kind < 256 ∧ x.name.size < 256 ∧ x.value.size < 256) → matsF xs.length acc (xs.flatMap matT2 ++ t, false) = (acc ++ xs, (t, false))
  | [], acc, t, _ => by simp [matsF]
  | x :: xs, acc, t, h => by
    have hx := h x (by simp)
    rw [List.length_cons, matsF, if_neg (by simp), List.flatMap_cons, List.append_assoc, matF_app hx.1 hx.2.1 hx.2.2.1 hx.2.2.2, matsF_app xs _ t fun y hy => h y (by simp [hy])]
    simp
theorem numF_back {r : Rst} (h : (numF r).2.2 = false) : r.1 = u8 ((numF r).1 : Int) :: (numF r).2.1 ∧ r.2 = false := by
  obtain ⟨l, b⟩ := r
  cases l with
  | nil => cases h
  | cons c t => exact ⟨by simp only [numF, u8_of], h⟩
theorem takeF_back {n : Nat} {r : Rst} (h : (takeF n r).2.2 = false) : r.1 = (takeF n r).1 ++ (takeF n r).2.1 ∧ r.2 = false := by
  unfold takeF at h ⊢
  split at h
  · cases h
  · rename_i hn
    rw [if_neg hn]
    exact ⟨by simp, h⟩
theorem textF_back {r : Rst} (h : (textF r).2.2 = false) : r.1 = textB (tx (textF r).1) ++ (textF r).2.1 ∧ r.2 = false ∧ (textF r).1.length < 256 := by
  unfold textF at h ⊢
  have h1 := takeF_back h
  have h2 := numF_back h1.2
  have h3 := takeF_len (numF r).1 (numF r).2
  have h4 := numF_le r
  refine ⟨?_, h2.2, by omega⟩
  rw [textB, tx_size, tx_data, h3, List.cons_append, ← h1.1, ← h2.1]
theorem labF_back {r : Rst} (h : (labF r).2.2 = false) : r.1 = labT2 (labF r).1 ++ (labF r).2.1 ∧ r.2 = false := by
  unfold labF at h ⊢
  have h1 := textF_back h
  have h2 := textF_back h1.2.1
  refine ⟨?_, h2.2.1⟩
  simp only [labT2]
  rw [List.append_assoc, ← h1.1, ← h2.1]
theorem labsF_back : ∀ (n : Nat) (acc : List Lab) (r : Rst), (labsF n acc r).2.2 = false → ∃ ys : List Lab, (labsF n acc r).1 = acc ++ ys ∧ ys.length = n ∧ r.1 = ys.flatMap labT2 ++ (labsF n acc r).2.1 ∧ r.2 = false
  | 0, acc, r, h => ⟨[], by simp [labsF], rfl, by simp [labsF], h⟩
  | n + 1, acc, r, h => by
    rw [labsF] at h ⊢
    split at h
    · rename_i hr
      rw [hr] at h
      cases h
    · rename_i hr
      rw [if_neg hr]
      obtain ⟨ys, h1, h2, h3, h4⟩ := labsF_back n _ _ h
      have h5 := labF_back h4
      refine ⟨(labF r).1 :: ys, by rw [h1]; simp, by simp [h2], ?_, h5.2⟩
      rw [List.flatMap_cons, List.append_assoc, ← h3, ← h5.1]
theorem matF_back {r : Rst} (h : (matF r).2.2 = false) : r.1 = matT2 (matF r).1 ++ (matF r).2.1 ∧ r.2 = false := by
  unfold matF at h ⊢
  have h1 := textF_back h
  have h2 := textF_back h1.2.1
  have h3 := numF_back h2.2.1
  refine ⟨?_, h3.2⟩
  simp only [matT2]
  rw [List.cons_append, List.append_assoc, ← h1.1, ← h2.1, ← h3.1]
theorem matsF_back : ∀ (n : Nat) (acc : List Mat) (r : Rst), (matsF n acc r).2.2 = false → ∃ ys : List Mat, (matsF n acc r).1 = acc ++ ys ∧ ys.length = n ∧ r.1 = ys.flatMap matT2 ++ (matsF n acc r).2.1 ∧ r.2 = false
  | 0, acc, r, h => ⟨[], by simp [matsF], rfl, by simp [matsF], h⟩
  | n + 1, acc, r, h => by
    rw [matsF] at h ⊢
    split at h
    · rename_i hr
      rw [hr] at h
      cases h
    · rename_i hr
      rw [if_neg hr]
      obtain ⟨ys, h1, h2, h3, h4⟩ := matsF_back n _ _ h
      have h5 := matF_back h4
      refine ⟨(matF r).1 :: ys, by rw [h1]; simp, by simp [h2], ?_, h5.2⟩
      rw [List.flatMap_cons, List.append_assoc, ← h3, ← h5.1]
theorem timeF_six {r : Rst} (h : (timeF 6 0 r).2.2 = false) : r.1 = sixB ((timeF 6 0 r).1 : Int) ++ (timeF 6 0 r).2.1 ∧ r.2 = false := by
  obtain ⟨l, b⟩ := r
  match l, h with
  | c0 :: c1 :: c2 :: c3 :: c4 :: c5 :: t, h =>
    refine ⟨?_, h⟩
    simp only [timeF, numF, sixB, List.cons_append, List.nil_append]
    have q0 := c0.toNat_lt
    have q1 := c1.toNat_lt
    have q2 := c2.toNat_lt
    have q3 := c3.toNat_lt
    have q4 := c4.toNat_lt
    have q5 := c5.toNat_lt
    have e : ∀ (c : UInt8) (x : Int), x % 256 = c.toNat → u8 x = c := by
      intro c x hx
      apply UInt8.toNat_inj.1
      rw [u8_tn]
      omega
    rw [e c0, e c1, e c2, e c3, e c4, e c5] <;> omega
  | [], h => cases h
  | [_], h => cases h
  | [_, _], h => cases h
  | [_, _, _], h => cases h
  | [_, _, _, _], h => cases h
  | [_, _, _, _, _], h => cases h
end Go.Proofs.Ytndgollcganhmaa
namespace Go.Proofs.YtndgollcganhmaaQ.P
open Go.RowKit Go.Proofs.YtndgollcganhmaaW.PrintWords Go.Proofs.YtndgollcganhmaaW.PrintLast Go.Proofs.YtndgollcganhmaaW.PrintMore
attribute [local go_sem] max2_int min2_int max_two min_two max_three min_three max_four min_four
def foghornlaw10_few.T5 : Bool × List (List Nat × List Nat) := (true, [([], []), ([], []), ([1], [1]), ([], []), ([3], [3]), ([4], [4]), ([5], [5]), ([2, 6], [2, 6]), ([], []), ([8], [8]), ([], []), ([10], [10]), ([11], [11]), ([12], [12]), ([9, 13], [9, 13]), ([7, 14], [7, 14]), ([15], [15]), ([0, 16], [0, 16]), ([17, 17, 0, 1, 2, 3, 4, 5, 6, 7, 8, 9, 10, 11, 12, 13, 14, 15, 16, 17], [0, 17])])
def foghornlaw10_few.B5 : List Nat := [0, 0, 2, 0, 8, 24, 56, 126, 0, 256, 0, 1024, 3072, 7168, 16128, 32766, 65534, 131071, 262143]
theorem foghornlaw10_few.tab5 : rtab .any (opsOf Try.f10 5) = foghornlaw10_few.T5 := by kernel_rfl
theorem foghornlaw10_few.bits5 : waitsOk foghornlaw10_few.T5.2 foghornlaw10_few.B5 = true := by kernel_rfl
end Go.Proofs.YtndgollcganhmaaQ.P
namespace Go.Proofs.YtndgollcganhmaaQ.P
open Go.RowKit Go.Proofs.YtndgollcganhmaaW.PrintWords Go.Proofs.YtndgollcganhmaaW.PrintLast Go.Proofs.YtndgollcganhmaaW.PrintMore
attribute [local go_sem] max2_int min2_int max_two min_two max_three min_three max_four min_four
def foghornlaw10_asked.T5 : Bool × List (List Nat × List Nat) := (true, [([], []), ([], []), ([1], [1]), ([], []), ([3], [3]), ([], []), ([5], [5]), ([6], [6]), ([7], [7]), ([4, 8], [4, 8]), ([], []), ([10], [10]), ([], []), ([12], [12]), ([13], [13]), ([14], [14]), ([11, 15], [11, 15]), ([2, 9, 16], [2, 9, 16]), ([17], [17]), ([0, 18], [0, 18]), ([19, 19, 0, 1, 2, 3, 4, 5, 6, 7, 8, 9, 10, 11, 12, 13, 14, 15, 16, 17, 18, 19], [0, 19])])
def foghornlaw10_asked.B5 : List Nat := [0, 0, 2, 0, 8, 0, 32, 96, 224, 504, 0, 1024, 0, 4096, 12288, 28672, 64512, 131070, 262142, 524287, 1048575]
theorem foghornlaw10_asked.tab5 : rtab .any (opsOf Try.f11 5) = foghornlaw10_asked.T5 := by kernel_rfl
theorem foghornlaw10_asked.bits5 : waitsOk foghornlaw10_asked.T5.2 foghornlaw10_asked.B5 = true := by kernel_rfl
end Go.Proofs.YtndgollcganhmaaQ.P
namespace Go.Proofs.Ytndgollcganhmaa
open Go.RowKit
attribute [local go_sem high] ext_size ext_cell ext_frozen alloc_cell alloc_frozen
def cut12 (x : ByteArray) : ByteArray := x.extract 0 12
def cutL (x : Lab) : Lab := ⟨cut12 x.name, cut12 x.value⟩
def fewL (xs : List Lab) : List Lab := (xs.take 6).map cutL
def cutM (x : Mat) : Mat := ⟨x.kind, cut12 x.name, cut12 x.value⟩
def fewM (xs : List Mat) : List Mat := (xs.take 6).map cutM
end Go.Proofs.Ytndgollcganhmaa
namespace Go.Proofs.YtndgollcganhmaaQ.P
open Go.RowKit Go.Proofs.YtndgollcganhmaaW.PrintWords Go.Proofs.YtndgollcganhmaaW.PrintLast Go.Proofs.YtndgollcganhmaaW.PrintMore Go.Proofs.Ytndgollcganhmaa
theorem rdL {xs : List S41} {i : Nat} (h : i < xs.length) : rd_T41 xs (i : Int) = xs[i] := getD_cast h
theorem rdM {xs : List S35} {i : Nat} (h : i < xs.length) : rd_T35 xs (i : Int) = xs[i] := getD_cast h
def cutLS (x : S41) : S41 := ⟨cutB 12 x.f0, cutB 12 x.f1⟩
def cutMS (x : S35) : S35 := ⟨x.f0, cutB 12 x.f1, cutB 12 x.f2⟩
theorem bytes_list {a b : ByteArray} : (a.toList = b.toList) ↔ a = b := ⟨fun h => bytes_of_eq (by rw [h]; simp), fun h => by rw [h]⟩
end Go.Proofs.YtndgollcganhmaaQ.P
namespace Go.Proofs.YtndgollcganhmaaQ.P
open Go.RowKit Go.Proofs.YtndgollcganhmaaW.PrintWords Go.Proofs.Ytndgollcganhmaa
theorem asked_l (xs ys : List Mat) (hl : xs.length = ys.length) (hb : xs.length < 1000000) (d : Nat) : ∀ (k i : Nat), i + d = xs.length → d < k →
    foghornref10_Asked.l0 k (xs.map ofMat) (ys.map ofMat) ((xs.map ofMat).length : Int) i = some (decide (xs.drop i = ys.drop i)) := by
  induction d with
  | zero =>
    intro k i h hk
    obtain ⟨k, rfl⟩ : ∃ m, k = m + 1 := ⟨k - 1, by omega⟩
    simp only [foghornref10_Asked.l0]
    rw [if_neg (by simp; omega), drop_end (by omega), drop_end (by omega)]
    simp
  | succ d ih =>
    intro k i h hk
    obtain ⟨k, rfl⟩ : ∃ m, k = m + 1 := ⟨k - 1, by omega⟩
    have hi : i < (xs.map ofMat).length := by simp; omega
    have hj : i < (ys.map ofMat).length := by simp; omega
    have hi' : i < xs.length := by omega
    have hj' : i < ys.length := by omega
    simp only [foghornref10_Asked.l0]
    rw [if_pos (by omega), if_pos (by omega), if_pos (by omega), if_pos (by omega), rdM hi, rdM hj, List.getElem_map, List.getElem_map, w64s (by omega), ih k (i + 1) (by omega) (by omega), drop_cons hi', drop_cons hj']
    generalize xs[i] = x
    generalize ys[i] = y
    obtain ⟨a, b, c⟩ := x
    obtain ⟨a', b', c'⟩ := y
    simp only [ofMat]
    by_cases h1 : a = a'
    · by_cases h2 : b = b'
      · by_cases h3 : c = c'
        · subst h1 h2 h3
          simp
        · have : ¬ c.toList = c'.toList := fun h => h3 (bytes_list.1 h)
          simp [h1, h2, h3, this]
      · have : ¬ b.toList = b'.toList := fun h => h2 (bytes_list.1 h)
        simp [h1, h2, this]
    · simp [h1]
theorem asked_f (xs ys : List Mat) (hb : xs.length < 1000000) {k : Nat} (hk : xs.length < k) : foghornref10_Asked.f k (xs.map ofMat) (ys.map ofMat) = some (decide (xs = ys)) := by
  unfold foghornref10_Asked.f
  by_cases h : xs.length = ys.length
  · rw [if_pos (by simp [h]), show (0 : Int) = ((0 : Nat) : Int) from rfl, asked_l xs ys h hb xs.length k 0 (by omega) (by omega)]
    simp
  · rw [if_neg (by simp; omega)]
    have : xs ≠ ys := fun e => h (by rw [e])
    simp [this]
theorem hushes_f (f t f' t' : Int) (xs ys : List Mat) (hb : xs.length < 1000000) {k : Nat} (hk : xs.length < k) : foghornref12_Hushes.f k f t (xs.map ofMat) f' t' (ys.map ofMat) = some (decide (f = f') && decide (t = t') && decide (xs = ys)) := by
  unfold foghornref12_Hushes.f
  rw [asked_f xs ys hb hk]
  by_cases h1 : f = f' <;> by_cases h2 : t = t' <;> simp [h1, h2]
theorem refSameL_f (a b : List Lab) : foghornref10_Same.f (a.map ofLab) (b.map ofLab) = some (decide (a = b)) := by
  unfold foghornref10_Same.f
  rw [labs_to_of, labs_to_of]
theorem dutySame_f (a b : List Lab) (a1 a2 a3 a4 a5 b1 b2 b3 b4 b5 : Int) : foghornref16_Same.f (a.map ofLab) a1 a2 a3 a4 a5 (b.map ofLab) b1 b2 b3 b4 b5 = some (decide (a = b) && (decide (a1 = b1) && (decide (a2 = b2) && (decide (a3 = b3) && (decide (a4 = b4) && decide (a5 = b5)))))) := by
  unfold foghornref16_Same.f
  rw [refSameL_f]
  by_cases h0 : a = b <;> by_cases h1 : a1 = b1 <;> by_cases h2 : a2 = b2 <;> by_cases h3 : a3 = b3 <;> by_cases h4 : a4 = b4 <;> simp [h0, h1, h2, h3, h4]
  rw [Bool.eq_iff_iff]
  simp
instance : DecidableEq Rc := fun a b =>
  decidable_of_iff (a.k = b.k ∧ a.l1 = b.l1 ∧ a.rt = b.rt ∧ a.pl = b.pl ∧ a.tr = b.tr ∧ a.due = b.due ∧ a.st = b.st ∧ a.l7 = b.l7 ∧ a.fr = b.fr ∧ a.tt = b.tt ∧ a.l10 = b.l10)
    ⟨fun h => by cases a; cases b; simpa using h, fun h => by subst h; simp⟩
theorem same_f (a b : Rc) (hb : a.l10.length < 1000000) {k : Nat} (hk : a.l10.length < k) : foghornref17_Same.f k a.k (a.l1.map ofLab) a.rt a.pl a.tr a.due a.st (a.l7.map ofLab) a.fr a.tt (a.l10.map ofMat) b.k (b.l1.map ofLab) b.rt b.pl b.tr b.due b.st (b.l7.map ofLab) b.fr b.tt (b.l10.map ofMat) = some (decide (a = b)) := by
  unfold foghornref17_Same.f
  rw [dutySame_f, refSameL_f, hushes_f _ _ _ _ _ _ hb hk]
  obtain ⟨ak, a1, a2, a3, a4, a5, a6, a7, a8, a9, a10⟩ := a
  obtain ⟨bk, b1, b2, b3, b4, b5, b6, b7, b8, b9, b10⟩ := b
  simp only [Rc.mk.injEq]
  by_cases h0 : ak = bk <;> by_cases h1 : a1 = b1 <;> by_cases h2 : a2 = b2 <;> by_cases h3 : a3 = b3 <;> by_cases h4 : a4 = b4 <;> by_cases h5 : a5 = b5 <;> by_cases h6 : a6 = b6 <;> by_cases h7 : a7 = b7 <;> simp [h0, h1, h2, h3, h4, h5, h6, h7, Bool.and_assoc]
end Go.Proofs.YtndgollcganhmaaQ.P
namespace Go.Proofs.YtndgollcganhmaaQ.P
open Go.RowKit Go.Proofs.YtndgollcganhmaaW.PrintWords Go.Proofs.Ytndgollcganhmaa
abbrev bl (s : ByteArray) : List UInt8 := s.data.toList
theorem okB_cases {r : Rc} (h : r.okB = true) :
    (r.k = 1 ∧ dutyB r = true ∧ r = ⟨1, r.l1, r.rt, r.pl, r.tr, r.due, r.st, [], 0, 0, []⟩) ∨
    (r.k = 2 ∧ labsB r.l7 = true ∧ r = ⟨2, [], 0, 0, 0, 0, 0, r.l7, 0, 0, []⟩) ∨
    (r.k = 3 ∧ hushB r.fr r.tt r.l10 = true ∧ r = ⟨3, [], 0, 0, 0, 0, 0, [], r.fr, r.tt, r.l10⟩) := by
  unfold Rc.okB at h
  obtain ⟨k, l1, a2, a3, a4, a5, a6, l7, a8, a9, l10⟩ := r
  simp only [noHushB, noDutyB] at h
  by_cases e1 : k = 1
  · rw [if_pos e1] at h
    simp only [Bool.and_eq_true, decide_eq_true_eq] at h
    left
    have hd := h.1.1
    obtain ⟨⟨_, h2⟩, h3⟩ := h
    subst e1
    refine ⟨rfl, hd, ?_⟩
    simp [h2, h3]
  · rw [if_neg e1] at h
    by_cases e2 : k = 2
    · rw [if_pos e2] at h
      simp only [Bool.and_eq_true, decide_eq_true_eq] at h
      right
      left
      simp [e2, h]
    · rw [if_neg e2] at h
      by_cases e3 : k = 3
      · rw [if_pos e3] at h
        simp only [Bool.and_eq_true, decide_eq_true_eq] at h
        right
        right
        simp [e3, h]
      · rw [if_neg e3] at h
        cases h
theorem labsOk_of {l : List Lab} (h : labsB l = true) : LabsOk l := fun x hx => by
  have := (labsB_few h).2.2 x hx
  unfold maxLen
  omega
theorem sz_of {r : Rc} (h : r.okB = true) : r.sz := by
  rcases okB_cases h with ⟨hk, hd, hr⟩ | ⟨hk, hd, hr⟩ | ⟨hk, hd, hr⟩
  · rw [hr]
    refine ⟨labsOk_of ?_, (fun x hx => by cases hx), (fun x hx => by cases hx)⟩
    simp only [dutyB, Bool.and_eq_true] at hd
    exact hd.1.1.1.2
  · rw [hr]
    exact ⟨(fun x hx => by cases hx), labsOk_of hd, (fun x hx => by cases hx)⟩
  · rw [hr]
    refine ⟨(fun x hx => by cases hx), (fun x hx => by cases hx), fun x hx => ?_⟩
    have := matB_few ((hushB_few hd).2.2.2.2.2 x hx)
    unfold maxLen
    omega
theorem numsB_of {a b c : Int} (h : numsB a b c = true) : 0 ≤ a ∧ a < 4 ∧ 0 ≤ b ∧ b < 4 ∧ 0 ≤ c ∧ c ≤ 99 := by
  simp only [numsB, Bool.and_eq_true, decide_eq_true_eq] at h
  omega
theorem dutyB_of {r : Rc} (h : dutyB r = true) : (0 ≤ r.rt ∧ r.rt < 4 ∧ 0 ≤ r.pl ∧ r.pl < 4 ∧ 0 ≤ r.tr ∧ r.tr ≤ 99) ∧ labsB r.l1 = true ∧ tickB r.due = true ∧ 1 ≤ r.st ∧ r.st ≤ 3 := by
  simp only [dutyB, Bool.and_eq_true, decide_eq_true_eq] at h
  exact ⟨numsB_of h.1.1.1.1, h.1.1.1.2, h.1.1.2, h.1.2, h.2⟩
theorem flatL_le {xs : List Lab} (h : labsB xs = true) : (labsW xs).length ≤ 55 := by
  have hf := labsB_few h
  have := flat_le labT2 18 xs (fun x hx => by
    have := hf.2.2 x hx
    simp only [labT2, List.length_append, textB_len]; omega)
  simp only [labsW, List.length_cons]
  omega
theorem flatM_le {f t : Int} {xs : List Mat} (h : hushB f t xs = true) : (matsW xs).length ≤ 77 := by
  have hf := hushB_few h
  have := flat_le matT2 19 xs (fun x hx => by
    have := matB_few (hf.2.2.2.2.2 x hx)
    simp only [matT2, List.length_cons, List.length_append, textB_len]; omega)
  simp only [matsW, List.length_cons]
  omega
theorem bytes_one {r : Rc} (h : r.k = 1) : r.bytes = Go.Proofs.Ytndgollcganhmaa.u8 1 :: Go.Proofs.Ytndgollcganhmaa.u8 r.rt :: Go.Proofs.Ytndgollcganhmaa.u8 r.pl :: Go.Proofs.Ytndgollcganhmaa.u8 r.tr :: Go.Proofs.Ytndgollcganhmaa.u8 r.st :: (sixB r.due ++ labsW r.l1) := by
  unfold Rc.bytes putW
  rw [if_pos h]
  rfl
theorem bytes_two {r : Rc} (h : r.k = 2) : r.bytes = Go.Proofs.Ytndgollcganhmaa.u8 2 :: labsW r.l7 := by
  unfold Rc.bytes putW
  rw [if_neg (by omega), if_pos h]
  rfl
theorem bytes_three {r : Rc} (h : r.k = 3) : r.bytes = Go.Proofs.Ytndgollcganhmaa.u8 3 :: (sixB r.fr ++ (sixB r.tt ++ matsW r.l10)) := by
  unfold Rc.bytes putW
  rw [if_neg (by omega), if_neg (by omega), h]
  rfl
theorem bytes_le {r : Rc} (h : r.okB = true) : r.bytes.length ≤ 90 := by
  rcases okB_cases h with ⟨hk, hd, hr⟩ | ⟨hk, hd, hr⟩ | ⟨hk, hd, hr⟩
  · have := flatL_le (dutyB_of hd).2.1
    rw [bytes_one hk]
    simp only [List.length_cons, List.length_append, sixB_len]
    omega
  · have := flatL_le hd
    rw [bytes_two hk]
    simp only [List.length_cons]
    omega
  · have := flatM_le hd
    rw [bytes_three hk]
    simp only [List.length_cons, List.length_append, sixB_len]
    omega
end Go.Proofs.YtndgollcganhmaaQ.P
namespace Go.Proofs.YtndgollcganhmaaQ.P
open Go.RowKit Go.Proofs.YtndgollcganhmaaW.PrintWords Go.Proofs.Ytndgollcganhmaa
theorem cut17_l (xs : List S41) (hx : xs.length ≤ 6) (d : Nat) : ∀ (k i : Nat) (acc : List S41), i + d = xs.length → d < k → acc.length ≤ i → foghornlaw17_labels.l0 k acc xs (xs.length : Int) i = some (acc ++ (xs.drop i).map cutLS) := by
  induction d with
  | zero =>
    intro k i acc h hk ha
    obtain ⟨k, rfl⟩ : ∃ m, k = m + 1 := ⟨k - 1, by omega⟩
    simp only [foghornlaw17_labels.l0]
    rw [if_neg (by omega), drop_end (by omega)]
    simp
  | succ d ih =>
    intro k i acc h hk ha
    obtain ⟨k, rfl⟩ : ∃ m, k = m + 1 := ⟨k - 1, by omega⟩
    have hi : i < xs.length := by omega
    simp only [foghornlaw17_labels.l0]
    have e1 := mn_eq ((xs[i].f0).size : Int) 12
    have e2 := mn_eq ((xs[i].f1).size : Int) 12
    rw [rdL hi, if_pos (by omega), if_pos (by omega), if_pos (by omega), if_pos (by omega), if_pos (by omega), if_pos (by omega), if_pos (by omega), if_pos (by omega), w64s (by omega), ih k (i + 1) _ (by omega) (by omega) (by simp; omega), drop_cons hi]
    rw [cutB_mn 12 12 _ rfl, cutB_mn 12 12 _ rfl]
    simp only [cutLS, List.map_cons, List.append_assoc, List.singleton_append]
theorem cut17_f (xs : List S41) {k : Nat} (hk : 7 ≤ k) : foghornlaw17_labels.f k xs = some ((xs.take 5).map cutLS) := by
  unfold foghornlaw17_labels.f
  have e1 := mn_eq (xs.length : Int) 5
  rw [if_pos (by omega), if_pos (by omega), Option.bind_some]
  rw [take_mn 5 5 _ rfl]
  have hl : (xs.take 5).length ≤ 5 := List.length_take_le _ _
  have := cut17_l (xs.take 5) (by omega) (xs.take 5).length k 0 [] (by omega) (by omega) (by simp)
  simpa using this
theorem few17_l (xs : List S35) (hx : xs.length ≤ 6) (b0 : Int) (b1 : List S41) (b2 b3 b4 b5 b6 : Int) (b7 : List S41) (b8 b9 : Int) (b10 : List S35) (d : Nat) : ∀ (k i : Nat) (acc : List S35), i + d = xs.length → d + 7 < k → acc.length ≤ i → foghornlaw17_few.l0 k acc xs (xs.length : Int) i b0 b1 b2 b3 b4 b5 b6 b7 b8 b9 b10 = some (b0, (b1.take 5).map cutLS, b2, b3, b4, b5, b6, (b7.take 5).map cutLS, b8, b9, acc ++ (xs.drop i).map cutMS) := by
  induction d with
  | zero =>
    intro k i acc h hk ha
    obtain ⟨k, rfl⟩ : ∃ m, k = m + 1 := ⟨k - 1, by omega⟩
    simp only [foghornlaw17_few.l0]
    rw [if_neg (by omega), drop_end (by omega), cut17_f b1 (by omega), Option.bind_some, cut17_f b7 (by omega), Option.bind_some]
    simp
  | succ d ih =>
    intro k i acc h hk ha
    obtain ⟨k, rfl⟩ : ∃ m, k = m + 1 := ⟨k - 1, by omega⟩
    have hi : i < xs.length := by omega
    simp only [foghornlaw17_few.l0]
    have e1 := mn_eq ((xs[i].f1).size : Int) 12
    have e2 := mn_eq ((xs[i].f2).size : Int) 12
    rw [rdM hi, if_pos (by omega), if_pos (by omega), if_pos (by omega), if_pos (by omega), if_pos (by omega), if_pos (by omega), if_pos (by omega), if_pos (by omega), w64s (by omega), ih k (i + 1) _ (by omega) (by omega) (by simp; omega), drop_cons hi]
    rw [cutB_mn 12 12 _ rfl, cutB_mn 12 12 _ rfl]
    simp only [cutMS, List.map_cons, List.append_assoc, List.singleton_append]
theorem few17_f (b0 : Int) (b1 : List S41) (b2 b3 b4 b5 b6 : Int) (b7 : List S41) (b8 b9 : Int) (b10 : List S35) {k : Nat} (hk : 20 ≤ k) :
    ∃ r : Rc, r.sz ∧ r.l10.length ≤ 6 ∧ foghornlaw17_few.f k b0 b1 b2 b3 b4 b5 b6 b7 b8 b9 b10 = some (r.k, r.l1.map ofLab, r.rt, r.pl, r.tr, r.due, r.st, r.l7.map ofLab, r.fr, r.tt, r.l10.map ofMat) := by
  refine ⟨⟨b0, ((b1.take 5).map cutLS).map toLab, b2, b3, b4, b5, b6, ((b7.take 5).map cutLS).map toLab, b8, b9, ((b10.take 6).map cutMS).map toMat⟩, ?_, ?_, ?_⟩
  · have hc : ∀ (xs : List S41), LabsOk ((xs.map cutLS).map toLab) := by
      intro xs x hx
      simp only [List.mem_map] at hx
      obtain ⟨_, ⟨y, _, rfl⟩, rfl⟩ := hx
      have h1 := cutB_size 12 y.f0
      have h2 := cutB_size 12 y.f1
      unfold maxLen
      exact ⟨by show (cutB 12 y.f0).size ≤ _; omega, by show (cutB 12 y.f1).size ≤ _; omega⟩
    refine ⟨hc _, hc _, ?_⟩
    intro x hx
    simp only [List.mem_map] at hx
    obtain ⟨_, ⟨y, _, rfl⟩, rfl⟩ := hx
    have h1 := cutB_size 12 y.f1
    have h2 := cutB_size 12 y.f2
    unfold maxLen
    exact ⟨by show (cutB 12 y.f1).size ≤ _; omega, by show (cutB 12 y.f2).size ≤ _; omega⟩
  · simp
    omega
  · unfold foghornlaw17_few.f
    have e1 := mn_eq (b10.length : Int) 6
    rw [if_pos (by omega), if_pos (by omega), Option.bind_some]
    rw [take_mn 6 6 _ rfl]
    have hl : (b10.take 6).length ≤ 6 := List.length_take_le _ _
    have := few17_l (b10.take 6) hl b0 b1 b2 b3 b4 b5 b6 b7 b8 b9 b10 (b10.take 6).length k 0 [] (by omega) (by omega) (by simp)
    have e : ∀ xs : List S41, (xs.map toLab).map ofLab = xs := fun xs => by simp [Function.comp_def, of_to_lab]
    have e2 : ∀ xs : List S35, (xs.map toMat).map ofMat = xs := fun xs => by simp [Function.comp_def, of_to_mat]
    rw [e, e, e2]
    simpa using this
theorem labsW_num {xs : List Lab} (h : xs.length < 256) (hx : ∀ x ∈ xs, x.name.size < 256 ∧ x.value.size < 256) : numF (labsW xs, false) = (xs.length, (xs.flatMap labT2, false)) ∧ labsF xs.length [] (xs.flatMap labT2, false) = (xs, ([], false)) := by
  refine ⟨numF_u8 h _ _, ?_⟩
  have := labsF_app xs [] [] hx
  rwa [List.append_nil, List.nil_append] at this
theorem matsW_num {xs : List Mat} (h : xs.length < 256) (hx : ∀ x ∈ xs, 0 ≤ x.kind ∧ x.kind < 256 ∧ x.name.size < 256 ∧ x.value.size < 256) : numF (matsW xs, false) = (xs.length, (xs.flatMap matT2, false)) ∧ matsF xs.length [] (xs.flatMap matT2, false) = (xs, ([], false)) := by
  refine ⟨numF_u8 h _ _, ?_⟩
  have := matsF_app xs [] [] hx
  rwa [List.append_nil, List.nil_append] at this
theorem getP_put {r : Rc} (ho : r.okB = true) : getP r.bytes = (r, ([], false)) := by
  unfold getP
  rcases okB_cases ho with ⟨hk1, hd, hr⟩ | ⟨hk1, hd, hr⟩ | ⟨hk1, hd, hr⟩
  · have hq := dutyB_of hd
    have hf := labsB_few hq.2.1
    have ht := tickB_of hq.2.2.1
    have hw := labsW_num (xs := r.l1) (by omega) (fun x hx => by have := hf.2.2 x hx; omega)
    have e0 := fun t => numF_u8i (n := 1) (by omega) (by omega) t false
    have e1 := fun t => numF_u8i (n := r.rt) (by omega) (by omega) t false
    have e2 := fun t => numF_u8i (n := r.pl) (by omega) (by omega) t false
    have e3 := fun t => numF_u8i (n := r.tr) (by omega) (by omega) t false
    have e4 := fun t => numF_u8i (n := r.st) (by omega) (by omega) t false
    have e5 := fun q => timeF_app ht.1 ht.2 q false
    rw [bytes_one hk1]
    simp only [e0, Int.toNat_one, if_true, numK, e1, e2, e3, e4, e5, hw.1, hw.2]
    refine Prod.ext (Eq.trans ?_ hr.symm) rfl
    simp only [Rc.mk.injEq, true_and, and_true]
    omega
  · have hf := labsB_few hd
    have hw := labsW_num (xs := r.l7) (by omega) (fun x hx => by have := hf.2.2 x hx; omega)
    have e0 := fun t => numF_u8i (n := 2) (by omega) (by omega) t false
    rw [bytes_two hk1]
    simp only [e0, Int.reduceToNat, if_true, hw.1, hw.2]
    rw [if_neg (by omega)]
    exact Prod.ext hr.symm rfl
  · have hf := hushB_few hd
    have ht := tickB_of hf.1
    have hu := tickB_of hf.2.1
    have hw := matsW_num (xs := r.l10) (by omega) (fun x hx => by have := matB_few (hf.2.2.2.2.2 x hx); omega)
    have e0 := fun t => numF_u8i (n := 3) (by omega) (by omega) t false
    have e5 := fun q => timeF_app ht.1 ht.2 q false
    have e6 := fun q => timeF_app hu.1 hu.2 q false
    rw [bytes_three hk1]
    simp only [e0, Int.reduceToNat, if_true, e5, e6, hw.1, hw.2]
    rw [if_neg (by omega), if_neg (by omega)]
    refine Prod.ext (Eq.trans ?_ hr.symm) rfl
    simp only [Rc.mk.injEq, true_and, and_true]
    omega
theorem getP_back {l : List UInt8} (h0 : (getP l).2.2 = false) (h1 : (getP l).2.1 = []) (ho : (getP l).1.okB = true) : (getP l).1.bytes = l := by
  unfold getP at h0 h1 ho ⊢
  by_cases k1 : (numF (l, false)).1 = 1
  · simp only [k1, if_true, numK] at h0 h1 ho ⊢
    rw [bytes_one rfl]
    obtain ⟨ys, g1, g2, g3, g4⟩ := labsF_back _ _ _ h0
    rw [h1, List.append_nil] at g3
    rw [List.nil_append] at g1
    have t1 := numF_back g4
    have t2 := timeF_six t1.2
    have n4 := numF_back t2.2
    have n3 := numF_back n4.2
    have n2 := numF_back n3.2
    have n1 := numF_back n2.2
    have n0 := numF_back n1.2
    rw [k1] at n0
    simp only
    rw [g1, labsW, g2, ← g3, ← t1.1, ← t2.1, ← n4.1, ← n3.1, ← n2.1, ← n1.1]
    exact n0.1.symm
  · by_cases k2 : (numF (l, false)).1 = 2
    · simp only [k2, if_true, Nat.reduceEqDiff, if_false] at h0 h1 ho ⊢
      rw [bytes_two rfl]
      obtain ⟨ys, g1, g2, g3, g4⟩ := labsF_back _ _ _ h0
      rw [h1, List.append_nil] at g3
      rw [List.nil_append] at g1
      have t1 := numF_back g4
      have n0 := numF_back t1.2
      rw [k2] at n0
      simp only
      rw [g1, labsW, g2, ← g3, ← t1.1]
      exact n0.1.symm
    · by_cases k3 : (numF (l, false)).1 = 3
      · simp only [k3, if_true, Nat.reduceEqDiff, if_false] at h0 h1 ho ⊢
        rw [bytes_three rfl]
        obtain ⟨ys, g1, g2, g3, g4⟩ := matsF_back _ _ _ h0
        rw [h1, List.append_nil] at g3
        rw [List.nil_append] at g1
        have t1 := numF_back g4
        have t2 := timeF_six t1.2
        have t3 := timeF_six t2.2
        have n0 := numF_back t3.2
        rw [k3] at n0
        simp only
        rw [g1, matsW, g2, ← g3, ← t1.1, ← t2.1, ← t3.1]
        exact n0.1.symm
      · simp only [k1, k2, k3, if_false] at ho
        exfalso
        rcases okB_cases ho with ⟨hk1, _, _⟩ | ⟨hk1, _, _⟩ | ⟨hk1, _, _⟩ <;> (simp only at hk1; omega)
theorem textF_short (r : Rst) : (textF r).1.length ≤ 255 := by
  unfold textF
  rw [takeF_len]
  exact numF_le r
theorem labsF_ok : ∀ (n : Nat) (acc : List Lab) (r : Rst), LabsOk acc → LabsOk (labsF n acc r).1
  | 0, _, _, h => h
  | n + 1, acc, r, h => by
    unfold labsF
    split
    · exact h
    · refine labsF_ok n _ _ fun x hx => ?_
      rcases List.mem_append.1 hx with hx | hx
      · exact h x hx
      · obtain rfl := List.mem_singleton.1 hx
        have h1 := textF_short r
        have h2 := textF_short (textF r).2
        unfold maxLen labF
        simp only [tx_size]
        omega
theorem matsF_ok : ∀ (n : Nat) (acc : List Mat) (r : Rst), MatsOk acc → MatsOk (matsF n acc r).1
  | 0, _, _, h => h
  | n + 1, acc, r, h => by
    unfold matsF
    split
    · exact h
    · refine matsF_ok n _ _ fun x hx => ?_
      rcases List.mem_append.1 hx with hx | hx
      · exact h x hx
      · obtain rfl := List.mem_singleton.1 hx
        have h1 := textF_short (numF r).2
        have h2 := textF_short (textF (numF r).2).2
        unfold maxLen matF
        simp only [tx_size]
        omega
theorem getP_sz (l : List UInt8) : (getP l).1.sz := by
  have nl : LabsOk [] := fun x hx => by cases hx
  have nm : MatsOk [] := fun x hx => by cases hx
  unfold getP
  simp only
  split
  · exact ⟨labsF_ok _ _ _ nl, nl, nm⟩
  · split
    · exact ⟨nl, labsF_ok _ _ _ nl, nm⟩
    · split
      · exact ⟨nl, nl, matsF_ok _ _ _ nm⟩
      · exact ⟨nl, nl, nm⟩
def getOk (l : List UInt8) : Bool := !((getP l).2.2 || !(getP l).2.1.isEmpty || !(getP l).1.okB)
theorem getOk_of {l : List UInt8} (h : getOk l = true) : (getP l).1.okB = true ∧ (getP l).1.bytes = l := by
  simp only [getOk, Bool.not_eq_true', Bool.or_eq_false_iff, Bool.not_eq_false', List.isEmpty_iff] at h
  exact ⟨h.2, getP_back h.1.1 h.1.2 h.2⟩
theorem getOk_put {r : Rc} (ho : r.okB = true) : getOk r.bytes = true := by
  unfold getOk
  rw [getP_put ho, ho]
  rfl
def Rc.tupE (r : Rc) (e : Int) : Int × (List S41) × Int × Int × Int × Int × Int × (List S41) × Int × Int × (List S35) × Int :=
  (r.k, r.l1.map ofLab, r.rt, r.pl, r.tr, r.due, r.st, r.l7.map ofLab, r.fr, r.tt, r.l10.map ofMat, e)
theorem get_f {s : ByteArray} (hs : s.size ≤ 100000) : code_Get.f s = some (if getOk (bl s) = true then (getP (bl s)).1.tupE 0 else Rc.zero.tupE 13) := by
  unfold code_Get.f
  rw [if_pos hs, right_f (getP_sz _)]
  simp only [getOk, bl]
  by_cases hq : ((getP s.data.toList).2.2 || !(getP s.data.toList).2.1.isEmpty || !(getP s.data.toList).1.okB) = true
  · simp only [hq, if_true]
    rfl
  · have hq' : ((getP s.data.toList).2.2 || !(getP s.data.toList).2.1.isEmpty || !(getP s.data.toList).1.okB) = false := by simpa using hq
    simp only [hq', if_false]
    rfl
theorem toList_tx (l : List UInt8) : (⟨l.toArray⟩ : ByteArray).toList = l := by
  rw [ByteArray.toList_eq]
theorem alive17_f : foghornlaw17_alive.f = some true := by
  have ho : (⟨2, [], 0, 0, 0, 0, 0, [⟨⟨#[97]⟩, ⟨#[120]⟩⟩], 0, 0, []⟩ : Rc).okB = true := by decide
  have hp := put_ok (sz_of ho) ho
  have hb : (⟨2, [], 0, 0, 0, 0, 0, [⟨⟨#[97]⟩, ⟨#[120]⟩⟩], 0, 0, []⟩ : Rc).bytes = [2, 1, 1, 97, 1, 120] := by decide
  have hg := getP_put ho
  have hk := getOk_put ho
  rw [hb] at hp hg hk
  unfold foghornlaw17_alive.f
  rw [show code_Put.f 2 ([] : List S41) 0 0 0 0 0 [⟨⟨#[97]⟩, ⟨#[120]⟩⟩] 0 0 ([] : List S35) = _ from hp, Option.bind_some, get_f (by decide), Option.bind_some]
  simp only [bl]
  rw [hk, hg]
  simp only [if_true, Rc.tupE]
  rw [if_pos (by rw [toList_tx [2, 1, 1, 97, 1, 120]])]
  rfl
end Go.Proofs.YtndgollcganhmaaQ.P
namespace Go.Proofs.YtndgollcganhmaaQ.P
open Go.RowKit Go.Proofs.YtndgollcganhmaaW.PrintWords Go.Proofs.Ytndgollcganhmaa
theorem put17_f {r : Rc} (h : r.sz) : code_Put.f r.k (r.l1.map ofLab) r.rt r.pl r.tr r.due r.st (r.l7.map ofLab) r.fr r.tt (r.l10.map ofMat) = some (if r.okB = true then (tx r.bytes, 0) else (tx [], 1)) := by
  cases ho : r.okB
  · exact put_no h ho
  · exact put_ok h ho
theorem right17_f {r : Rc} (h : r.sz) : code_Right.f r.k (r.l1.map ofLab) r.rt r.pl r.tr r.due r.st (r.l7.map ofLab) r.fr r.tt (r.l10.map ofMat) = some r.okB := right_f h
theorem cut130 (s : ByteArray) : s.extract 0 (mn (s.size : Int) 130).toNat = cutB 130 s := cutB_mn 130 130 s rfl
theorem codeBack_pure (b0 : Int) (b1 : List S41) (b2 b3 b4 b5 b6 : Int) (b7 : List S41) (b8 b9 : Int) (b10 : List S35) (a1 : ByteArray) : foghornlaw17_CodeBack.f 1001 b0 b1 b2 b3 b4 b5 b6 b7 b8 b9 b10 a1 = some true := by
  obtain ⟨r, hs, hl, hf⟩ := few17_f b0 b1 b2 b3 b4 b5 b6 b7 b8 b9 b10 (show 20 ≤ 1001 by omega)
  unfold foghornlaw17_CodeBack.f
  have e := mn_eq (a1.size : Int) 130
  have hz := cutB_size 130 a1
  have hj : foghornlaw17_CodeBack.j0 1001 (cutB 130 a1) = some true := by
    generalize cutB 130 a1 = s at hz ⊢
    simp only [foghornlaw17_CodeBack.j0]
    rw [get_f (by omega), Option.bind_some, alive17_f]
    cases hk : getOk (bl s)
    · simp only [Bool.false_eq_true, if_false, Rc.tupE, Option.bind_some, if_true]
      have := same_f Rc.zero Rc.zero (by simp [Rc.zero]) (k := 1000) (by simp [Rc.zero])
      rw [show foghornref17_Same.f 1000 Rc.zero.k (Rc.zero.l1.map ofLab) Rc.zero.rt Rc.zero.pl Rc.zero.tr Rc.zero.due Rc.zero.st (Rc.zero.l7.map ofLab) Rc.zero.fr Rc.zero.tt (Rc.zero.l10.map ofMat) 0 [] 0 0 0 0 0 [] 0 0 [] = _ from this]
      simp
    · obtain ⟨h1, h2⟩ := getOk_of hk
      simp only [if_true, Rc.tupE]
      rw [put17_f (sz_of h1), right17_f (sz_of h1), h1, h2]
      rw [show tx (bl s) = s from tx_of s]
      simp
  rw [hf, Option.bind_some, if_pos (by omega), if_pos (by omega), cut130]
  simp only
  rw [put17_f hs, Option.bind_some]
  cases ho : r.okB
  · simpa using hj
  · have hb := bytes_le ho
    have hbl : bl (tx r.bytes) = r.bytes := tx_data _
    simp only [if_true]
    rw [get_f (by rw [tx_size]; omega), Option.bind_some, hbl, getOk_put ho, getP_put ho]
    simp only [if_true, Rc.tupE]
    rw [same_f r r (by omega) (by omega), Option.bind_some, if_pos (by simp), if_neg (by rw [tx_size]; omega)]
    exact hj
def RecK (v : Value) (w : World) (a0 : Int) (l1 : List S41) (a2 a3 a4 a5 a6 : Int) (l7 : List S41) (a8 a9 : Int) (l10 : List S35) : Prop :=
  ∃ (A1 : Option Addr) (c1 : Nat) (A7 : Option Addr) (c7 : Nat) (A10 : Option Addr) (c10 : Nat), v = .agg #[.int .i64 a0, .slice A1 l1.length c1, .int .i64 a2, .int .i64 a3, .int .i64 a4, .int .i64 a5, .int .i64 a6, .slice A7 l7.length c7, .int .i64 a8, .int .i64 a9, .slice A10 l10.length c10] ∧ l1.length ≤ c1 ∧ Kd.C k41 w A1 l1.length l1 ∧ l7.length ≤ c7 ∧ Kd.C k41 w A7 l7.length l7 ∧ l10.length ≤ c10 ∧ Kd.C k35 w A10 l10.length l10
def RecR (v : Value) (W : World) (x : Rc) : Prop := RecK v W x.k (x.l1.map ofLab) x.rt x.pl x.tr x.due x.st (x.l7.map ofLab) x.fr x.tt (x.l10.map ofMat)
theorem CodeBack_walk (v0 : Value) (x : Rc) (a1 : ByteArray) (w : World) (h0 : RecR v0 w x) (h : a1.size ≤ maxLen) :
    Calls Try.prog 8 #[v0, .string a1] w fun e w' => e = .returned (.bool true) ∧ Below w.heap.size w w' := by
  obtain ⟨A1, c1, A7, c7, A10, c10, rfl, h1, k1, h7, k7, h10, k10⟩ := h0
  exact foghornlaw17_CodeBack.calls 1001 x.k A1 c1 (x.l1.map ofLab) x.rt x.pl x.tr x.due x.st A7 c7 (x.l7.map ofLab) x.fr x.tt A10 c10 (x.l10.map ofMat) a1 true w k1 h1 k7 h7 k10 h10 (codeBack_pure ..)
end Go.Proofs.YtndgollcganhmaaQ.P
namespace Go.Proofs.Ytndgollcganhmaa
open Go.RowKit Go.ChangeShapes Go.WideShapes Go.ChangeAt Go.Proofs.YtndgollcganhmaaW.PrintWords
def Opens (P : Program) (W : World) (t : TypeId) {α : Type} (d : Kd α) (Q : α → Prop) : Prop :=
  ∀ {H : Type} (enc : TypeId × Value → H) (base : Nat) (spare : Nat → Bool) (held : Bool) (fuel : Nat) (cs : List Value) (y : DataW H × List MemPlace), DataW.trod enc P W base spare held fuel t cs = some y → cs.length = d.sz → ∃ x, d.K W x cs ∧ Q x
def OpensL (P : Program) (W : World) (fs : List Field) (o : Nat) {α : Type} (d : Kd α) (Q : α → Prop) : Prop :=
  ∀ {H : Type} (enc : TypeId × Value → H) (base : Nat) (spare : Nat → Bool) (held : Bool) (cs : List Value), (∀ (j : Nat) (f : Field), fs[j]? = some f → ∃ fuel y, DataW.trod enc P W base spare held fuel f.type ((cs.drop (f.offset - o)).take (P.cellsOf f.type)) = some y) → cs.length = d.sz → ∃ x, d.K W x cs ∧ Q x
section
variable {P : Program} {W : World} {t e : TypeId} {α β : Type} {d : Kd α} {Q : α → Prop}
theorem opens_int {k : IntKind} (ht : P.underlying t = some (.int k)) : Opens P W t (Kd.int k) (fun n => (Lit.int k n).wf = true) := by
  intro H enc base spare held fuel cs y h _
  obtain ⟨n, rfl, _, hw⟩ := DataW.trod_int ht h
  exact ⟨n, rfl, hw⟩
theorem opens_string (ht : P.underlying t = some .string) : Opens P W t Kd.string (fun s => s.size ≤ maxLen) := by
  intro H enc base spare held fuel cs y h _
  obtain ⟨n, rfl, _, hw⟩ := DataW.trod_string ht h
  exact ⟨n, rfl, hw⟩
theorem opens_C (hc : P.cellsOf e = d.sz) (h0 : 0 < d.sz) (h : Opens P W e d Q) {H : Type} {enc : TypeId × Value → H} {base : Nat} {spare : Nat → Bool} {held : Bool} {p : List MemPlace} {dd : DataW H} (ht : P.underlying t = some (.slice e)) {v : Value} (ht2 : DataW.Trod enc P W base spare held t v dd p) (hv : ∃ a l c, v = .slice a l c) :
    ∃ (xs : List α) (A : Option Addr) (c : Nat), v = .slice A xs.length c ∧ xs.length ≤ c ∧ d.C W A xs.length xs ∧ ∀ x ∈ xs, Q x := by
  obtain ⟨n, cells, hS, hel⟩ := sl_of_trod ht hc h0 ht2 hv
  have hx : ∀ i, i < n → ∃ x, d.K W x ((cells.drop (i * d.sz)).take d.sz) ∧ Q x := by
    intro i hi
    obtain ⟨f, y, hy⟩ := hel i hi
    refine h enc base spare held f _ y hy ?_
    have hle : i * d.sz + d.sz ≤ n * d.sz := by rw [← Nat.succ_mul]; exact Nat.mul_le_mul_right _ hi
    rw [List.length_take, List.length_drop, hS.1]
    omega
  have hxs : ∀ m, m ≤ n → ∃ xs : List α, xs.length = m ∧ ∀ i x, xs[i]? = some x → d.K W x ((cells.drop (i * d.sz)).take d.sz) ∧ Q x := by
    intro m
    induction m with
    | zero => exact fun _ => ⟨[], rfl, fun i x hx => by simp at hx⟩
    | succ m ih =>
      intro hm
      obtain ⟨xs, hl, hq⟩ := ih (by omega)
      obtain ⟨x, hk, hqx⟩ := hx m (by omega)
      refine ⟨xs ++ [x], by simp [hl], fun i y hy => ?_⟩
      rcases Nat.lt_or_ge i xs.length with hi | hi
      · rw [List.getElem?_append_left hi] at hy
        exact hq i y hy
      · rw [List.getElem?_append_right hi] at hy
        obtain ⟨h1, h2⟩ := List.getElem?_eq_some_iff.1 hy
        have hi2 : i = m := by simp at h1; omega
        subst hi2
        simp at h2
        subst h2
        exact ⟨hk, hqx⟩
  obtain ⟨xs, hl, hq⟩ := hxs n (Nat.le_refl _)
  obtain ⟨a, c, hv2, hnc, hnm⟩ := hS.form
  subst hv2
  subst hl
  refine ⟨xs, a, c, rfl, hnc, ⟨rfl, by unfold maxLen at hnm; omega, fun hp => ?_⟩, fun x hx => ?_⟩
  · obtain ⟨b, o, rfl, _, hcell⟩ := hS.at hp
    refine ⟨_, rfl, fun j p hj => ⟨_, ?_, (hq j p hj).1, fun i u hu => ?_⟩⟩
    · exact d.K_len (hq j p hj).1
    · rw [List.getElem?_take] at hu
      split at hu
      · rw [List.getElem?_drop] at hu
        rw [add_off]
        exact hcell _ _ hu
      · cases hu
  · obtain ⟨i, hi, rfl⟩ := List.mem_iff_getElem.1 hx
    exact (hq i _ (List.getElem?_eq_getElem hi)).2
theorem opens_slice (ht : P.underlying t = some (.slice e)) (hc : P.cellsOf e = d.sz) (h0 : 0 < d.sz) (h : Opens P W e d Q) : Opens P W t (Kd.slice e d) (fun xs => ∀ x ∈ xs, Q x) := by
  intro H enc base spare held fuel cs y hy hl
  obtain ⟨u, rfl⟩ : ∃ u, cs = [u] := by
    match cs, hl with
    | [u], _ => exact ⟨u, rfl⟩
  obtain ⟨hv, h2⟩ := slice_of_trod ht hy
  obtain ⟨xs, A, c, rfl, h3, h4, h5⟩ := opens_C hc h0 h ht h2 hv
  exact ⟨xs, ⟨A, c, rfl, h3, h4⟩, h5⟩
theorem opensL_one {f : Field} (h : Opens P W f.type d Q) (hc : P.cellsOf f.type = d.sz) : OpensL P W [f] f.offset d Q := by
  intro H enc base spare held cs hf hl
  obtain ⟨fuel, y, hy⟩ := hf 0 f rfl
  rw [Nat.sub_self, List.drop_zero, hc, List.take_of_length_le (by omega)] at hy
  exact h enc base spare held fuel cs y hy hl
theorem opensL_cons {f : Field} {fs : List Field} {b : Kd β} {Qb : β → Prop} (h : Opens P W f.type d Q) (hc : P.cellsOf f.type = d.sz) (hs : OpensL P W fs (f.offset + d.sz) b Qb) (ho : (fs.all fun g => decide (f.offset + d.sz ≤ g.offset)) = true) :
    OpensL P W (f :: fs) f.offset (Kd.pair d b) (fun x => Q x.1 ∧ Qb x.2) := by
  intro H enc base spare held cs hf hl
  have hl' : cs.length = d.sz + b.sz := hl
  obtain ⟨fuel, y, hy⟩ := hf 0 f rfl
  rw [Nat.sub_self, List.drop_zero, hc] at hy
  obtain ⟨x, hk, hq⟩ := h enc base spare held fuel _ y hy (by rw [List.length_take]; omega)
  obtain ⟨z, hkz, hqz⟩ := hs enc base spare held (cs.drop d.sz) (fun j g hg => by
    obtain ⟨fuel, y, hy⟩ := hf (j + 1) g (by simpa using hg)
    have hog : f.offset + d.sz ≤ g.offset := by simpa using List.all_eq_true.1 ho g (List.mem_of_getElem? hg)
    refine ⟨fuel, y, ?_⟩
    rw [List.drop_drop, show d.sz + (g.offset - (f.offset + d.sz)) = g.offset - f.offset by omega]
    exact hy) (by rw [List.length_drop]; omega)
  exact ⟨(x, z), ⟨_, _, (List.take_append_drop d.sz cs).symm, hk, hkz⟩, hq, hqz⟩
theorem opens_struct {fs : Array Field} (ht : P.underlying t = some (.struct fs)) (h : OpensL P W fs.toList 0 d Q) : Opens P W t d Q := by
  intro H enc base spare held fuel cs y hy hl
  obtain ⟨xs, n, _, _, _, hlx, hx⟩ := DataW.trod_struct ht hy
  refine h enc base spare held cs (fun j f hf => ?_) hl
  have hf' : fs[j]? = some f := by simpa using hf
  have h1 := hx j f hf'
  have hj : j < xs.length := by rw [hlx]; exact (Array.getElem?_eq_some_iff.1 hf').1
  rw [List.getElem?_eq_getElem hj] at h1
  exact ⟨n, _, h1⟩
theorem opens_iso {f : β → α} {g : α → β} (hfg : ∀ x, f (g x) = x) (h : Opens P W t d Q) : Opens P W t (Kd.iso d f) (fun y => Q (f y)) := by
  intro H enc base spare held fuel cs y hy hl
  obtain ⟨x, hk, hq⟩ := h enc base spare held fuel cs y hy hl
  exact ⟨g x, (by show d.K W (f (g x)) cs; rw [hfg]; exact hk), (by show Q (f (g x)); rw [hfg]; exact hq)⟩
theorem Opens.imp {Q' : α → Prop} (h : Opens P W t d Q) (hq : ∀ x, Q x → Q' x) : Opens P W t d Q' := by
  intro H enc base spare held fuel cs y hy hl
  obtain ⟨x, hk, hx⟩ := h enc base spare held fuel cs y hy hl
  exact ⟨x, hk, hq x hx⟩
theorem arg_struct (h : Opens P W t d Q) {fs : Array Field} (hc : P.cellsOf t = d.sz) {H : Type} {enc : TypeId × Value → H} {r : Reach} {base bb : Nat} {spare : Nat → Bool} {held : Bool} {p : List MemPlace} {dd : DataW H} (ht : P.underlying t = some (.struct fs)) {v : Value} (hv : Value.okWide P W r bb t v) (h2 : DataW.Trod enc P W base spare held t v dd p) :
    ∃ x : α, (∃ cs : List Value, v = .agg cs.toArray ∧ d.K W x cs) ∧ Q x := by
  obtain ⟨cs, rfl, hsz⟩ := okWide_struct ht hv
  obtain ⟨fuel, hf⟩ := h2
  obtain ⟨x, hk, hq⟩ := h enc base spare held fuel cs.toList _ hf (by simpa [hc] using hsz)
  exact ⟨x, ⟨cs.toList, by simp, hk⟩, hq⟩
end
end Go.Proofs.Ytndgollcganhmaa
namespace Go.Proofs.YtndgollcganhmaaQ.P
open Go.RowKit Go.ChangeShapes Go.WideShapes Go.ChangeAt Go.Proofs.YtndgollcganhmaaW.PrintWords Go.Proofs.Ytndgollcganhmaa
theorem opensLab (W : World) : Opens Try.prog W 41 k41 (fun x => x.f0.size ≤ maxLen ∧ x.f1.size ≤ maxLen) :=
  opens_iso (g := fun x => ⟨x.1, x.2⟩) (fun _ => rfl) (opens_struct Try.underlying41 (opensL_cons (opens_string Try.underlying9) (by kernel_rfl) (opensL_one (opens_string Try.underlying9) (by kernel_rfl)) (by rfl)))
section
variable {W : World} {H : Type} {enc : TypeId × Value → H} {r : Reach} {base bb : Nat} {spare : Nat → Bool} {held : Bool} {p : List MemPlace} {dd : DataW H} {v : Value}
end
end Go.Proofs.YtndgollcganhmaaQ.P
namespace Go.Proofs.YtndgollcganhmaaQ.P
open Go.RowKit Go.ChangeShapes Go.WideShapes Go.ChangeAt Go.Proofs.YtndgollcganhmaaW.PrintWords Go.Proofs.Ytndgollcganhmaa
theorem opensMat (W : World) : Opens Try.prog W 35 k35 (fun x => (Lit.int .i64 x.f0).wf = true ∧ x.f1.size ≤ maxLen ∧ x.f2.size ≤ maxLen) :=
  opens_iso (g := fun x => ⟨x.1, x.2.1, x.2.2⟩) (fun _ => rfl) (opens_struct Try.underlying35 (opensL_cons (opens_int Try.underlying3) (by kernel_rfl) (opensL_cons (opens_string Try.underlying9) (by kernel_rfl) (opensL_one (opens_string Try.underlying9) (by kernel_rfl)) (by rfl)) (by rfl)))
section
variable {W : World} {H : Type} {enc : TypeId × Value → H} {r : Reach} {base bb : Nat} {spare : Nat → Bool} {held : Bool} {p : List MemPlace} {dd : DataW H} {v : Value}
end
end Go.Proofs.YtndgollcganhmaaQ.P
namespace Go.Proofs.YtndgollcganhmaaQ.P
open Go.RowKit Go.ChangeShapes Go.WideShapes Go.ChangeAt Go.Proofs.YtndgollcganhmaaW.PrintWords Go.Proofs.Ytndgollcganhmaa
section
variable {W : World} {H : Type} {enc : TypeId × Value → H} {r : Reach} {base bb : Nat} {spare : Nat → Bool} {held : Bool} {p : List MemPlace} {dd : DataW H} {v : Value}
def kDuty : Kd (List S41 × Int × Int × Int × Int × Int) := Kd.pair (Kd.slice 41 k41) (Kd.pair (Kd.int .i64) (Kd.pair (Kd.int .i64) (Kd.pair (Kd.int .i64) (Kd.pair (Kd.int .i64) (Kd.int .i64)))))
def kHush : Kd (Int × Int × List S35) := Kd.pair (Kd.int .i64) (Kd.pair (Kd.int .i64) (Kd.slice 35 k35))
theorem opensLabs (W : World) : Opens Try.prog W 22 (Kd.slice 41 k41) (fun xs => ∀ x ∈ xs, x.f0.size ≤ maxLen ∧ x.f1.size ≤ maxLen) := opens_slice Try.underlying22 (by kernel_rfl) (by decide) (opensLab W)
theorem opensMats (W : World) : Opens Try.prog W 23 (Kd.slice 35 k35) (fun xs => ∀ x ∈ xs, (Lit.int .i64 x.f0).wf = true ∧ x.f1.size ≤ maxLen ∧ x.f2.size ≤ maxLen) := opens_slice Try.underlying23 (by kernel_rfl) (by decide) (opensMat W)
theorem anyO {P : Program} {W : World} {t : TypeId} {α : Type} {d : Kd α} {Q : α → Prop} (h : Opens P W t d Q) : Opens P W t d (fun _ => True) := h.imp fun _ _ => trivial
theorem opensI (W : World) : Opens Try.prog W 3 (Kd.int .i64) (fun _ => True) := anyO (opens_int Try.underlying3)
theorem opensDuty (W : World) : Opens Try.prog W 46 kDuty (fun _ => True) :=
  anyO (opens_struct Try.underlying46 (opensL_cons (opensLabs W) (by kernel_rfl) (opensL_cons (opensI W) (by kernel_rfl) (opensL_cons (opensI W) (by kernel_rfl) (opensL_cons (opensI W) (by kernel_rfl) (opensL_cons (opensI W) (by kernel_rfl) (opensL_one (opensI W) (by kernel_rfl)) (by rfl)) (by rfl)) (by rfl)) (by rfl)) (by rfl)))
theorem opensHush (W : World) : Opens Try.prog W 48 kHush (fun _ => True) :=
  anyO (opens_struct Try.underlying48 (opensL_cons (opensI W) (by kernel_rfl) (opensL_cons (opensI W) (by kernel_rfl) (opensL_one (opensMats W) (by kernel_rfl)) (by rfl)) (by rfl)))
theorem opensRec (W : World) : Opens Try.prog W 50 (Kd.pair (Kd.int .i64) (Kd.pair kDuty (Kd.pair (Kd.slice 41 k41) kHush))) (fun _ => True) :=
  anyO (opens_struct Try.underlying50 (opensL_cons (opensI W) (by kernel_rfl) (opensL_cons (opensDuty W) (by kernel_rfl) (opensL_cons (opensLabs W) (by kernel_rfl) (opensL_one (opensHush W) (by kernel_rfl)) (by rfl)) (by rfl)) (by rfl)))
set_option maxRecDepth 100000 in
theorem argRec (hv : Value.okWide Try.prog W r bb 50 v) (h2 : DataW.Trod enc Try.prog W base spare held 50 v dd p) :
    ∃ x : Rc, RecR v W x := by
  obtain ⟨⟨a0, ⟨l1, a2, a3, a4, a5, a6⟩, l7, a8, a9, l10⟩, ⟨cs, rfl, hk⟩, _⟩ := arg_struct (opensRec W) (by kernel_rfl) Try.underlying50 hv h2
  obtain ⟨_, _, rfl, rfl, _, _, rfl, ⟨_, _, rfl, ⟨A1, c1, rfl, h1, k1⟩, _, _, rfl, rfl, _, _, rfl, rfl, _, _, rfl, rfl, _, _, rfl, rfl, rfl⟩, _, _, rfl, ⟨A7, c7, rfl, h7, k7⟩, _, _, rfl, rfl, _, _, rfl, rfl, A10, c10, rfl, h10, k10⟩ := hk
  have e : ∀ xs : List S41, (xs.map toLab).map ofLab = xs := fun xs => by simp [Function.comp_def, of_to_lab]
  have e2 : ∀ xs : List S35, (xs.map toMat).map ofMat = xs := fun xs => by simp [Function.comp_def, of_to_mat]
  refine ⟨⟨a0, l1.map toLab, a2, a3, a4, a5, a6, l7.map toLab, a8, a9, l10.map toMat⟩, ?_⟩
  unfold RecR
  simp only [e, e2]
  exact ⟨A1, c1, A7, c7, A10, c10, rfl, h1, k1, h7, k7, h10, k10⟩
end
end Go.Proofs.YtndgollcganhmaaQ.P
namespace Go.Proofs.Ytndgollcganhmaa.codeBack
open Go.ChangeShapes Go.WideShapes Go.ChangeAt Go.RowKit Go.Proofs.YtndgollcganhmaaQ.P
open Go.ChangeMaps (open_string shut_string)
theorem own : ownKnob Try.prog.godebug = none := by kernel_rfl
theorem laidOut : laidOutB Try.prog = true := by kernel_rfl
set_option maxRecDepth 100000 in
theorem lifted (os : Os) (started : os.Started) (H : Type) (enc : TypeId × Value → H) :
    ReturnsInHanded {} Try.checked os 8 .any (Rows.codeBackSpec.pre6 enc Try.prog Try.f8 Rows.codeBackRow.domain false) (Rows.codeBackSpec.post enc Try.prog Try.f8 false true false false) := by
  refine returnsInHanded_of_change (C := Try.checked) own started (by kernel_rfl) Try.func8
    (ChangeSpec.witness6 (enc := enc) (C := Try.checked) false ⟨#[], #[.agg #[.int .i64 0, .slice none 0 0, .int .i64 0, .int .i64 0, .int .i64 0, .int .i64 0, .int .i64 0, .slice none 0 0, .int .i64 0, .int .i64 0, .slice none 0 0], .string ByteArray.empty], []⟩ 8 (by kernel_rfl) (by kernel_rfl) (by kernel_rfl) (by kernel_rfl)) ?_
  intro W base args ds gs before hval0 hW hcnd _
  have hval : ∀ (j : Nat) t v, Try.f8.params[j]? = some t → args[j]? = some v → Value.okWide Try.prog W .any base t v := hval0
  have hW' := hW
  obtain ⟨p, q, hA0, hV, rfl, hfz, hnd⟩ := hW
  have hA : DataW.TrodAll enc Try.prog W 0 (fun _ => true) true Try.f8.params.toList args.toList ds p := hA0
  rw [Try.params8] at hA hval
  obtain ⟨v0, vs0, d0, ds0, p0, q0, hargs, rfl, rfl, h0, r0⟩ := trodAll_cons hA
  obtain ⟨v1, vs1, d1, ds1, p1, q1, rfl, rfl, rfl, h1, r1⟩ := trodAll_cons r0
  obtain ⟨rfl, rfl, rfl⟩ := trodAll_nil r1
  obtain rfl : args = #[v0, v1] := by cases args; simp_all
  obtain ⟨rfl, rfl⟩ := trodVars_none hV
  have lt0 : ∀ x ∈ p0, x.block < W.heap.size := by obtain ⟨m, hm⟩ := h0; exact DataW.trod_lt m _ _ _ hm
  have k0 := h0
  have lt1 : ∀ x ∈ p1, x.block < W.heap.size := by obtain ⟨m, hm⟩ := h1; exact DataW.trod_lt m _ _ _ hm
  have k1 := h1
  obtain ⟨a0, w0⟩ := argRec (hval 0 50 v0 rfl rfl) h0
  obtain ⟨a1, rfl, rfl, rfl, w1⟩ := open_string Try.underlying9 (hval 1 9 v1 rfl rfl) h1
  clear hA0 hval0
  refine (CodeBack_walk v0 a0 a1 W w0 w1).mono fun e W' ⟨he, bel⟩ => ?_
  subst he
  exact ⟨_, rfl, _, _, _, [], _, [], hW', trodAll_mk1 (shut_bool Try.underlying4 _), (trodAll_cons_mk (Below.trod laidOut (by kernel_rfl) (of_decide_eq_true (by kernel_rfl)) k0 bel lt0) (trodAll_cons_mk (Below.trod laidOut (by kernel_rfl) (of_decide_eq_true (by kernel_rfl)) k1 bel lt1) trodAll_mk0)), rfl, bel.frame _, fun h => by cases h⟩
theorem over : Rows.codeBackRow.holds Try.pinned (OpenSpec.ofChange Rows.codeBackSpec) :=
  OpenClaim.holds_of_wide 8 Try.f8 rfl rfl rfl rfl rfl rfl rfl ⟨rfl, rfl, rfl, rfl, rfl⟩ rfl rfl rfl rfl rfl (by kernel_rfl) Try.func8 (by kernel_rfl)
    (of_decide_eq_true (by kernel_rfl)) (by unfold Func.isWrapper; first | (rw [if_pos (by decide +kernel)]; kernel_rfl) | (rw [if_neg (by decide +kernel)]; exact ⟨rfl, rfl⟩))
    (fun os started H enc _ => lifted os started H enc)
end Go.Proofs.Ytndgollcganhmaa.codeBack
namespace Go.Proofs.Ytndgollcganhmaa
theorem codeBack_holds : Rows.CodeBackSaid := codeBack.over
#print axioms codeBack_holds
end Go.Proofs.Ytndgollcganhmaa
