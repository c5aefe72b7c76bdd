/- Part 6 of a proof: contracts and plain laws of what the statement reaches. No condition. -/
import Derived.Test.YtopaddpclipnjaaStoreBootsz1
import Derived.Test.YtopaddpclipnjaaStoreBootsz3
import Derived.Test.YtopaddpclipnjaaStoreBootsz5
set_option linter.unusedVariables false
set_option linter.unusedSimpArgs false
namespace Go.Proofs.YtopaddpclipnjaaQ.P
open Go.RowKit Go.Proofs.YtopaddpclipnjaaW.PrintWords Go.Proofs.YtopaddpclipnjaaW.PrintLast Go.Proofs.YtopaddpclipnjaaW.PrintMore
attribute [local go_sem] max2_int min2_int max_two min_two max_three min_three max_four min_four
def foghornlaw04_StoreFails.T1 : Bool × List (List Nat × List Nat) := (true, [([], []), ([0], [0]), ([], []), ([], []), ([3], [3]), ([4], [4]), ([2, 5], [2, 5]), ([], []), ([], []), ([8], [8]), ([9], [9]), ([7, 10], [7, 10]), ([1, 1, 0, 1], [1]), ([6, 12, 0, 1, 2, 3, 4, 5, 6, 12], [2, 3, 6]), ([11, 13, 0, 1, 2, 3, 4, 5, 6, 7, 8, 9, 10, 11, 12, 13], [7, 8, 11])])
def foghornlaw04_StoreFails.B1 : List Nat := [0, 1, 0, 0, 8, 24, 60, 0, 0, 256, 768, 1920, 3, 4223, 16383]
theorem foghornlaw04_StoreFails.tab1 : rtab .any (opsOf Try.f4 1) = foghornlaw04_StoreFails.T1 := by kernel_rfl
theorem foghornlaw04_StoreFails.bits1 : waitsOk foghornlaw04_StoreFails.T1.2 foghornlaw04_StoreFails.B1 = true := by kernel_rfl
end Go.Proofs.YtopaddpclipnjaaQ.P
namespace Go.Proofs.YtopaddpclipnjaaQ.P
open Go.RowKit Go.Proofs.YtopaddpclipnjaaW.PrintWords Go.Proofs.YtopaddpclipnjaaW.PrintLast Go.Proofs.YtopaddpclipnjaaW.PrintMore
attribute [local go_sem] max2_int min2_int max_two min_two max_three min_three max_four min_four
def foghornref02_Tear.l0 : Nat → Int → ByteArray → Int → List ByteArray → List ByteArray → Int → Int → Option (List ByteArray)
 | 0, _, _, _, _, _, _, _ => none
 | k + 1, x1, x2, x3, x9, x14, x15, x16 => if x16 < x15 then (if 0 ≤ x16 then (if x16 < (x14.length : Int) then (if x16 = x1 then (if 0 ≤ x3 then (if x3 ≤ (x2.size : Int) then (if x3 ≤ ((rdOf ByteArray.empty x14 x16).size : Int) then (if (x2.extract 0 (x3 : Int).toNat).size + ((rdOf ByteArray.empty x14 x16).extract (x3 : Int).toNat (rdOf ByteArray.empty x14 x16).size).size ≤ 9223372036854775807 then (if x9.length < 8796093022208 then (foghornref02_Tear.l0 k x1 x2 x3 (x9 ++ [(x2.extract 0 (x3 : Int).toNat) ++ ((rdOf ByteArray.empty x14 x16).extract (x3 : Int).toNat (rdOf ByteArray.empty x14 x16).size)]) x14 x15 (wrap64 (x16 + 1))) else (none)) else (none)) else (none)) else (none)) else (none)) else (if x9.length < 8796093022208 then (foghornref02_Tear.l0 k x1 x2 x3 (x9 ++ [rdOf ByteArray.empty x14 x16]) x14 x15 (wrap64 (x16 + 1))) else (none))) else (none)) else (none)) else (some x9)
def foghornref02_Tear.f (k : Nat) (l0_0 : List ByteArray) (a1 : Int) (a2 : ByteArray) (a3 : Int) : Option (List ByteArray) := foghornref02_Tear.l0 k a1 a2 a3 (([] : List ByteArray)) l0_0 (l0_0.length : Int) 0
theorem foghornref02_Tear.mono_l : ∀ k, (∀ y0 y1 y2 y3 y4 y5 y6, LeO (foghornref02_Tear.l0 k y0 y1 y2 y3 y4 y5 y6) (foghornref02_Tear.l0 (k + 1) y0 y1 y2 y3 y4 y5 y6))
 | 0 => fun _ _ _ _ _ _ _ r h => by simp [foghornref02_Tear.l0] at h
 | k + 1 => by
  have ih0 := foghornref02_Tear.mono_l k
  ·intro y0 y1 y2 y3 y4 y5 y6
   unfold foghornref02_Tear.l0
   repeat' first
   | (with_reducible exact ih0 _ _ _ _ _ _ _)
   | (with_reducible exact LeO.refl _)
   | (with_reducible exact LeO.none _)
   | (with_reducible refine LeO.ite ?_ ?_)
   | (with_reducible refine LeO.bind ?_ (fun _ => ?_))
   | exact ih0 _ _ _ _ _ _ _
   | exact LeO.none _
   | refine LeO.ite ?_ ?_
   | refine LeO.bind ?_ (fun _ => ?_)
theorem foghornref02_Tear.mono : ∀ a0 a1 a2 a3 k, LeO (foghornref02_Tear.f k a0 a1 a2 a3) (foghornref02_Tear.f (k + 1) a0 a1 a2 a3) := by
 intro a0 a1 a2 a3 k
 have ih0 := foghornref02_Tear.mono_l k
 unfold foghornref02_Tear.f
 repeat' first
   | (with_reducible exact ih0 _ _ _ _ _ _ _)
   | (with_reducible exact LeO.refl _)
   | (with_reducible exact LeO.none _)
   | (with_reducible refine LeO.ite ?_ ?_)
   | (with_reducible refine LeO.bind ?_ (fun _ => ?_))
   | exact ih0 _ _ _ _ _ _ _
   | exact LeO.none _
   | refine LeO.ite ?_ ?_
   | refine LeO.bind ?_ (fun _ => ?_)
set_option maxHeartbeats 8000000 in
set_option maxRecDepth 100000 in
theorem foghornref02_Tear.calls (k : Nat) (A0_0 : Option Addr) (c0_0 : Nat) (l0_0 : List ByteArray) (a1 : Int) (a2 : ByteArray) (a3 : Int) (r : List ByteArray) (w : World) (hr0_0 : Kd.C Kd.string w A0_0 l0_0.length l0_0) (hc0_0 : l0_0.length ≤ c0_0) (h : foghornref02_Tear.f k l0_0 a1 a2 a3 = some r) :
  Calls Try.prog 61 #[.agg #[.slice A0_0 l0_0.length c0_0], .int .i64 a1, .string a2, .int .i64 a3] w fun e w' => ∃ v0_ : Value, e = .returned (.agg #[v0_]) ∧ Kd.R Kd.string 9 w' w.heap.size (fun _ => True) v0_ r ∧ Below w.heap.size w w' := by
 have hu24 := Try.underlying24
 have HR0_0 := aA hr0_0
 have HC0_0 := aA hc0_0
 clear hr0_0 hc0_0
 have HB := aA (Below.refl w.heap.size w)
 have H : (foghornref02_Tear.l0 k a1 a2 a3 (([] : List ByteArray)) l0_0 (l0_0.length : Int) 0) = some r := h
 clear h
 obtain ⟨y213, hy213⟩ : ∃ y_ : List ByteArray, y_ = (([] : List ByteArray)) := ⟨_, rfl⟩
 replace H : (foghornref02_Tear.l0 k a1 a2 a3 y213 l0_0 (l0_0.length : Int) 0) = some r := by first | (rw [hy213]; with_reducible exact H) | (have H2_ := (Option.bind_some _ _).symm.trans H; rw [hy213]; with_reducible exact H2_) | (have H2_ := (Option.bind_some _ _).symm.trans H; with_reducible exact H2_) | with_reducible exact H | (rw [hy213]; exact H) | exact H
 have Ny213 := aA hy213
 clear hy213
 have H' := aA H
 clear H
 go_enter Try.func61, Try.ntmps61
 go_wp2_with (first | ((with_reducible refine gate_dst (N := 4) rfl ?_); refine box_event ?hg (N := 4) ?hd (cs := #[.slice A0_0 l0_0.length c0_0]) (t := 24) ?hr ?_; (case hd => rfl); (case hg => rfl); (case hr => first | (go_simp; done) | (go_simp; rfl)); intro gb211 hg w5 hbox hb; have n0_ := aA (below_step mB hb); have n1_ := aA (hbox); have n2_ := aA ((bZ hg mB)); have n3_ := aA ((bZ hg mB)); clear HB; have HB := n0_; have BK211 := n1_; have GW211 := n2_; have GE211 := n3_; clear n0_ n1_ n2_ n3_ hb hbox hg) | ((with_reducible refine gate_dst (N := 8) rfl ?_); refine box_event ?hg (N := 8) ?hd (cs := #[.slice none 0 0]) (t := 24) ?hr ?_; (case hd => rfl); (case hg => rfl); (case hr => first | (go_simp; done) | (go_simp; rfl)); intro gb212 hg w6 hbox hb; have n0_ := aA (bB BK211.out hb); have n1_ := aA (below_step (mD1 GE211.out) hb); have n2_ := aA (hbox); have n3_ := aA ((bZ hg (mD1 GE211.out))); have n4_ := aA ((bZ hg (mD1 GE211.out))); have n5_ := aA ((bL hg BK211.out)); have n6_ := aA ((bG hg BK211.out)); clear BK211 HB; have BK211 := n0_; have HB := n1_; have BK212 := n2_; have GW212 := n3_; have GE212 := n4_; have NB211_212 := n5_; have NB212_211 := n6_; clear n0_ n1_ n2_ n3_ n4_ n5_ n6_ hb hbox hg) | ((with_reducible refine gate_dst (N := 12) rfl ?_); refine Kd.R_lit Kd.string _ 9 ?hg (N := 12) ?hd (xs := ([] : List ByteArray)) (inner := []) (ok := fun _ => True) (okp := fun _ => True) ?hr ?hp (fun _ hk => hk) trivial (Below.refl _ _) (Nat.le_refl _) (by simp) ?_; (case hd => rfl); (case hg => rfl); (case hr => first | (go_simp; done) | (go_simp; rfl)); (case hp => exact (Reps.none _ _)); intro v214 w7 ho8 hb hg_ hnew_; clear hg_ hnew_; (first | rw [← Ny213.out] at ho8 | (simp only [Int.reduceToNat] at ho8; rw [← Ny213.out] at ho8)); have n0_ := aA (Kd.R_lower ho8 (below_size (mD2 GE211.out GE212.out))); have n1_ := aA (bB BK211.out hb); have n2_ := aA (bB BK212.out hb); have n3_ := aA (below_step (mD2 GE211.out GE212.out) hb); clear BK211 BK212 HB; have HO215 := n0_; have BK211 := n1_; have BK212 := n2_; have HB := n3_; clear n0_ n1_ n2_ n3_ hb ho8; have hnb9 := NB211_212.out; have hnc9 := NB212_211.out; have hcz10_0 : w7.cell? ⟨gb211, 0, none⟩ = some (.slice A0_0 l0_0.length c0_0) := (blk_cell BK211.out 0).trans rfl; have hfz10_0 := blk_frozen BK211.out 0))
 repeat (go_quiet (first | ((with_reducible refine gate_dst (N := 4) rfl ?_); refine box_event ?hg (N := 4) ?hd (cs := #[.slice A0_0 l0_0.length c0_0]) (t := 24) ?hr ?_; (case hd => rfl); (case hg => rfl); (case hr => first | (go_simp; done) | (go_simp; rfl)); intro gb211 hg w5 hbox hb; have n0_ := aA (below_step mB hb); have n1_ := aA (hbox); have n2_ := aA ((bZ hg mB)); have n3_ := aA ((bZ hg mB)); clear HB; have HB := n0_; have BK211 := n1_; have GW211 := n2_; have GE211 := n3_; clear n0_ n1_ n2_ n3_ hb hbox hg) | ((with_reducible refine gate_dst (N := 8) rfl ?_); refine box_event ?hg (N := 8) ?hd (cs := #[.slice none 0 0]) (t := 24) ?hr ?_; (case hd => rfl); (case hg => rfl); (case hr => first | (go_simp; done) | (go_simp; rfl)); intro gb212 hg w6 hbox hb; have n0_ := aA (bB BK211.out hb); have n1_ := aA (below_step (mD1 GE211.out) hb); have n2_ := aA (hbox); have n3_ := aA ((bZ hg (mD1 GE211.out))); have n4_ := aA ((bZ hg (mD1 GE211.out))); have n5_ := aA ((bL hg BK211.out)); have n6_ := aA ((bG hg BK211.out)); clear BK211 HB; have BK211 := n0_; have HB := n1_; have BK212 := n2_; have GW212 := n3_; have GE212 := n4_; have NB211_212 := n5_; have NB212_211 := n6_; clear n0_ n1_ n2_ n3_ n4_ n5_ n6_ hb hbox hg) | ((with_reducible refine gate_dst (N := 12) rfl ?_); refine Kd.R_lit Kd.string _ 9 ?hg (N := 12) ?hd (xs := ([] : List ByteArray)) (inner := []) (ok := fun _ => True) (okp := fun _ => True) ?hr ?hp (fun _ hk => hk) trivial (Below.refl _ _) (Nat.le_refl _) (by simp) ?_; (case hd => rfl); (case hg => rfl); (case hr => first | (go_simp; done) | (go_simp; rfl)); (case hp => exact (Reps.none _ _)); intro v214 w7 ho8 hb hg_ hnew_; clear hg_ hnew_; (first | rw [← Ny213.out] at ho8 | (simp only [Int.reduceToNat] at ho8; rw [← Ny213.out] at ho8)); have n0_ := aA (Kd.R_lower ho8 (below_size (mD2 GE211.out GE212.out))); have n1_ := aA (bB BK211.out hb); have n2_ := aA (bB BK212.out hb); have n3_ := aA (below_step (mD2 GE211.out GE212.out) hb); clear BK211 BK212 HB; have HO215 := n0_; have BK211 := n1_; have BK212 := n2_; have HB := n3_; clear n0_ n1_ n2_ n3_ hb ho8; have hnb9 := NB211_212.out; have hnc9 := NB212_211.out; have hcz10_0 : w7.cell? ⟨gb211, 0, none⟩ = some (.slice A0_0 l0_0.length c0_0) := (blk_cell BK211.out 0).trans rfl; have hfz10_0 := blk_frozen BK211.out 0)); try go_wp2_with (first | ((with_reducible refine gate_dst (N := 4) rfl ?_); refine box_event ?hg (N := 4) ?hd (cs := #[.slice A0_0 l0_0.length c0_0]) (t := 24) ?hr ?_; (case hd => rfl); (case hg => rfl); (case hr => first | (go_simp; done) | (go_simp; rfl)); intro gb211 hg w5 hbox hb; have n0_ := aA (below_step mB hb); have n1_ := aA (hbox); have n2_ := aA ((bZ hg mB)); have n3_ := aA ((bZ hg mB)); clear HB; have HB := n0_; have BK211 := n1_; have GW211 := n2_; have GE211 := n3_; clear n0_ n1_ n2_ n3_ hb hbox hg) | ((with_reducible refine gate_dst (N := 8) rfl ?_); refine box_event ?hg (N := 8) ?hd (cs := #[.slice none 0 0]) (t := 24) ?hr ?_; (case hd => rfl); (case hg => rfl); (case hr => first | (go_simp; done) | (go_simp; rfl)); intro gb212 hg w6 hbox hb; have n0_ := aA (bB BK211.out hb); have n1_ := aA (below_step (mD1 GE211.out) hb); have n2_ := aA (hbox); have n3_ := aA ((bZ hg (mD1 GE211.out))); have n4_ := aA ((bZ hg (mD1 GE211.out))); have n5_ := aA ((bL hg BK211.out)); have n6_ := aA ((bG hg BK211.out)); clear BK211 HB; have BK211 := n0_; have HB := n1_; have BK212 := n2_; have GW212 := n3_; have GE212 := n4_; have NB211_212 := n5_; have NB212_211 := n6_; clear n0_ n1_ n2_ n3_ n4_ n5_ n6_ hb hbox hg) | ((with_reducible refine gate_dst (N := 12) rfl ?_); refine Kd.R_lit Kd.string _ 9 ?hg (N := 12) ?hd (xs := ([] : List ByteArray)) (inner := []) (ok := fun _ => True) (okp := fun _ => True) ?hr ?hp (fun _ hk => hk) trivial (Below.refl _ _) (Nat.le_refl _) (by simp) ?_; (case hd => rfl); (case hg => rfl); (case hr => first | (go_simp; done) | (go_simp; rfl)); (case hp => exact (Reps.none _ _)); intro v214 w7 ho8 hb hg_ hnew_; clear hg_ hnew_; (first | rw [← Ny213.out] at ho8 | (simp only [Int.reduceToNat] at ho8; rw [← Ny213.out] at ho8)); have n0_ := aA (Kd.R_lower ho8 (below_size (mD2 GE211.out GE212.out))); have n1_ := aA (bB BK211.out hb); have n2_ := aA (bB BK212.out hb); have n3_ := aA (below_step (mD2 GE211.out GE212.out) hb); clear BK211 BK212 HB; have HO215 := n0_; have BK211 := n1_; have BK212 := n2_; have HB := n3_; clear n0_ n1_ n2_ n3_ hb ho8; have hnb9 := NB211_212.out; have hnc9 := NB212_211.out; have hcz10_0 : w7.cell? ⟨gb211, 0, none⟩ = some (.slice A0_0 l0_0.length c0_0) := (blk_cell BK211.out 0).trans rfl; have hfz10_0 := blk_frozen BK211.out 0)))
 go_loopg [9, 16] k (fun kq v9 v16 w' => ∃ (x9_1 : List ByteArray) (x16_1 : Int), v16 = .int .i64 x16_1 ∧ Aside0 (foghornref02_Tear.l0 kq a1 a2 a3 x9_1 l0_0 (l0_0.length : Int) x16_1 = some r) ∧ Aside0 (kq ≤ k) ∧ Aside0 (Kd.R Kd.string 9 w' w.heap.size (fun _ => True) v9 x9_1) ∧ Aside0 (w'.heap[gb211]? = some (.cells #[(.slice A0_0 l0_0.length c0_0)] 24 (0, 0))) ∧ Aside0 (w'.heap[gb212]? = some (.cells #[(.slice none 0 0)] 24 (0, 0))) ∧ Aside0 (Below w.heap.size w w'))
 case atStart => exact ⟨(y213), (0), (by first | rfl | (simp; done) | (simp [*]; done)), H', ⟨Nat.le_refl _⟩, ⟨by (with_reducible repeat (first | apply Kd.R_alloc | apply Kd.R_drewN | apply Kd.R_drew)); exact HO215.out⟩, ⟨by (with_reducible repeat (first | refine blk_drewN ?_ _ | refine blk_drew ?_ | refine blk_alloc ?_ _)); exact BK211.out⟩, ⟨by (with_reducible repeat (first | refine blk_drewN ?_ _ | refine blk_drew ?_ | refine blk_alloc ?_ _)); exact BK212.out⟩, ⟨by repeat (first | (with_reducible first | exact HB.out | apply below_alloc | apply pw_below_drewN | apply below_drew1 | refine below_set ?_ GE211.out | refine below_set ?_ GE212.out) | exact HB.out)⟩⟩
 case round =>
  clear H'
  try clear p2
  try clear c6
  try clear c9
  try clear hcz10_0
  try clear hfz10_0
  obtain ⟨x9_1, x16_1, rfl, HA, HK1, HO_9, BK211, BK212, HB⟩ := hrel
  cases gk with
  | zero => exact absurd HA.out (by simp [foghornref02_Tear.l0])
  | succ k1 =>
   have H := HA.out
   clear HA
   simp only [foghornref02_Tear.l0] at H
   by_cases c11 : x16_1 < (l0_0.length : Int)
   ·rw [if_pos c11] at H
    have c11b0 : decide (x16_1 < (l0_0.length : Int)) = true := decide_eq_true c11
    clear c11
    by_cases c12 : 0 ≤ x16_1
    ·rw [if_pos c12] at H
     have c12b0 : decide (0 ≤ x16_1) = true := decide_eq_true c12
     clear c12
     by_cases c13 : x16_1 < (l0_0.length : Int)
     ·rw [if_pos c13] at H
      have c13b0 : decide (x16_1 < (l0_0.length : Int)) = true := decide_eq_true c13
      clear c13
      by_cases c14 : x16_1 = a1
      ·rw [if_pos c14] at H
       have c14b0 : (x16_1 == a1) = true := beq_iff_eq.mpr c14
       have c14b1 : (x16_1 != a1) = false := bne_eq_false_iff_eq.mpr c14
       clear c14
       by_cases c15 : 0 ≤ a3
       ·rw [if_pos c15] at H
        have c15b0 := eq_true c15
        have c15b1 := decide_eq_true c15
        clear c15
        by_cases c16 : a3 ≤ (a2.size : Int)
        ·rw [if_pos c16] at H
         have c16b0 := eq_true c16
         have c16b1 := decide_eq_true c16
         clear c16
         have c17b0 := eq_true (of_decide_eq_true (by first | (with_reducible assumption) | assumption) : 0 ≤ a3)
         by_cases c18 : a3 ≤ ((rdOf ByteArray.empty l0_0 x16_1).size : Int)
         ·rw [if_pos c18] at H
          have c18b0 := eq_true c18
          have c18b1 := decide_eq_true c18
          clear c18
          by_cases c19 : (a2.extract 0 (a3 : Int).toNat).size + ((rdOf ByteArray.empty l0_0 x16_1).extract (a3 : Int).toNat (rdOf ByteArray.empty l0_0 x16_1).size).size ≤ 9223372036854775807
          ·rw [if_pos c19] at H
           have c19b0 := eq_true c19
           have c19b1 := decide_eq_true c19
           try have c19b2 : (9223372036854775807 < (a2.extract 0 (a3 : Int).toNat).size + ((rdOf ByteArray.empty l0_0 x16_1).extract (a3 : Int).toNat (rdOf ByteArray.empty l0_0 x16_1).size).size) = False := eq_false (Nat.not_lt.2 c19)
           by_cases c20 : x9_1.length < 8796093022208
           ·rw [if_pos c20] at H
            have LMc20 := aA c20
            clear c20
            obtain ⟨y217, hy217⟩ : ∃ y_ : List ByteArray, y_ = (x9_1 ++ [(a2.extract 0 (a3 : Int).toNat) ++ ((rdOf ByteArray.empty l0_0 x16_1).extract (a3 : Int).toNat (rdOf ByteArray.empty l0_0 x16_1).size)]) := ⟨_, rfl⟩
            replace H : (foghornref02_Tear.l0 k1 a1 a2 a3 y217 l0_0 (l0_0.length : Int) (wrap64 (x16_1 + 1))) = some r := by first | (rw [hy217]; with_reducible exact H) | (have H2_ := (Option.bind_some _ _).symm.trans H; rw [hy217]; with_reducible exact H2_) | (have H2_ := (Option.bind_some _ _).symm.trans H; with_reducible exact H2_) | with_reducible exact H | (rw [hy217]; exact H) | exact H
            have Ny217 := aA hy217
            clear hy217
            have H' := aA H
            clear H
            have p216 : 0 ≤ (x16_1 : Int) := of_decide_eq_true (by first | (with_reducible assumption) | assumption)
            have q216 : x16_1 < (l0_0.length : Int) := of_decide_eq_true (by first | (with_reducible assumption) | assumption)
            obtain ⟨ad216, e216, hx216_0⟩ := Kd.at_string HR0_0.out x16_1 p216 q216
            cases e216
            replace hx216_0 := (HB.out.cell (World.block_lt_of_cell? w _ hx216_0)).trans hx216_0
            replace p216 := eq_true p216
            replace q216 := eq_true q216
            go_wp2_with (first | ((with_reducible refine gate_builtin (b := .append) (xs := #[.tmp 31, .tmp 33]) rfl ?_); at_builtin; refine Kd.R_append Kd.string (w0 := w) w.heap.size rfl (.tmp 31) (.tmp 33) 22 9 (.string ⟨#[]⟩) 16 rfl Try.underlying22 info9 rfl (by decide) (by omega) u9 x9_1 ((a2.extract 0 (a3 : Int).toNat) ++ ((rdOf ByteArray.empty l0_0 x16_1).extract (a3 : Int).toNat (rdOf ByteArray.empty l0_0 x16_1).size)) [.string ((a2.extract 0 (a3 : Int).toNat) ++ ((rdOf ByteArray.empty l0_0 x16_1).extract (a3 : Int).toNat (rdOf ByteArray.empty l0_0 x16_1).size))] (fun _ => True) (fun _ => False) rfl rfl ?aP (fun _ hk => hk.elim) ?aF ?aO ?aB ?aS ?aL ?_; (case aP => exact rfl); (case aB => exact (mD2 GE211.out GE212.out)); (case aF => exact (fun _ _ => trivial)); (case aO => exact (mR HO_9.out)); (case aS => exact (below_size (mD2 GE211.out GE212.out))); (case aL => have := LMc20.out; omega); intro v218 w21 ho hb hg hat; rw [← Ny217.out] at ho; have n0_ := aA (blk_grown (g := gb211) (o := .cells #[.slice (some ad216) l0_0.length c0_0] 24 (0, 0)) (mK BK211.out) hg (Kd.R_ne HO_9.out BK211.out (by decide))); have n1_ := aA (blk_grown (g := gb212) (o := .cells #[.slice none 0 0] 24 (0, 0)) (mK BK212.out) hg (Kd.R_ne HO_9.out BK212.out (by decide))); have n2_ := aA (hb); have n3_ := aA (ho); clear BK211 BK212 HB HO_9; have BK211 := n0_; have BK212 := n1_; have HB := n2_; have HO219 := n3_; clear n0_ n1_ n2_ n3_ ho hb hg hat))
            repeat (go_quiet (first | ((with_reducible refine gate_builtin (b := .append) (xs := #[.tmp 31, .tmp 33]) rfl ?_); at_builtin; refine Kd.R_append Kd.string (w0 := w) w.heap.size rfl (.tmp 31) (.tmp 33) 22 9 (.string ⟨#[]⟩) 16 rfl Try.underlying22 info9 rfl (by decide) (by omega) u9 x9_1 ((a2.extract 0 (a3 : Int).toNat) ++ ((rdOf ByteArray.empty l0_0 x16_1).extract (a3 : Int).toNat (rdOf ByteArray.empty l0_0 x16_1).size)) [.string ((a2.extract 0 (a3 : Int).toNat) ++ ((rdOf ByteArray.empty l0_0 x16_1).extract (a3 : Int).toNat (rdOf ByteArray.empty l0_0 x16_1).size))] (fun _ => True) (fun _ => False) rfl rfl ?aP (fun _ hk => hk.elim) ?aF ?aO ?aB ?aS ?aL ?_; (case aP => exact rfl); (case aB => exact (mD2 GE211.out GE212.out)); (case aF => exact (fun _ _ => trivial)); (case aO => exact (mR HO_9.out)); (case aS => exact (below_size (mD2 GE211.out GE212.out))); (case aL => have := LMc20.out; omega); intro v218 w21 ho hb hg hat; rw [← Ny217.out] at ho; have n0_ := aA (blk_grown (g := gb211) (o := .cells #[.slice (some ad216) l0_0.length c0_0] 24 (0, 0)) (mK BK211.out) hg (Kd.R_ne HO_9.out BK211.out (by decide))); have n1_ := aA (blk_grown (g := gb212) (o := .cells #[.slice none 0 0] 24 (0, 0)) (mK BK212.out) hg (Kd.R_ne HO_9.out BK212.out (by decide))); have n2_ := aA (hb); have n3_ := aA (ho); clear BK211 BK212 HB HO_9; have BK211 := n0_; have BK212 := n1_; have HB := n2_; have HO219 := n3_; clear n0_ n1_ n2_ n3_ ho hb hg hat)); try go_wp2_with (first | ((with_reducible refine gate_builtin (b := .append) (xs := #[.tmp 31, .tmp 33]) rfl ?_); at_builtin; refine Kd.R_append Kd.string (w0 := w) w.heap.size rfl (.tmp 31) (.tmp 33) 22 9 (.string ⟨#[]⟩) 16 rfl Try.underlying22 info9 rfl (by decide) (by omega) u9 x9_1 ((a2.extract 0 (a3 : Int).toNat) ++ ((rdOf ByteArray.empty l0_0 x16_1).extract (a3 : Int).toNat (rdOf ByteArray.empty l0_0 x16_1).size)) [.string ((a2.extract 0 (a3 : Int).toNat) ++ ((rdOf ByteArray.empty l0_0 x16_1).extract (a3 : Int).toNat (rdOf ByteArray.empty l0_0 x16_1).size))] (fun _ => True) (fun _ => False) rfl rfl ?aP (fun _ hk => hk.elim) ?aF ?aO ?aB ?aS ?aL ?_; (case aP => exact rfl); (case aB => exact (mD2 GE211.out GE212.out)); (case aF => exact (fun _ _ => trivial)); (case aO => exact (mR HO_9.out)); (case aS => exact (below_size (mD2 GE211.out GE212.out))); (case aL => have := LMc20.out; omega); intro v218 w21 ho hb hg hat; rw [← Ny217.out] at ho; have n0_ := aA (blk_grown (g := gb211) (o := .cells #[.slice (some ad216) l0_0.length c0_0] 24 (0, 0)) (mK BK211.out) hg (Kd.R_ne HO_9.out BK211.out (by decide))); have n1_ := aA (blk_grown (g := gb212) (o := .cells #[.slice none 0 0] 24 (0, 0)) (mK BK212.out) hg (Kd.R_ne HO_9.out BK212.out (by decide))); have n2_ := aA (hb); have n3_ := aA (ho); clear BK211 BK212 HB HO_9; have BK211 := n0_; have BK212 := n1_; have HB := n2_; have HO219 := n3_; clear n0_ n1_ n2_ n3_ ho hb hg hat)))
            go_roundg k1
            case measure => have := HK1.out; omega
            case rel => exact ⟨(y217), (wrap64 (x16_1 + 1)), (by first | rfl | (simp; done) | (simp [*]; done)), H', ⟨by have := HK1.out; omega⟩, ⟨by (with_reducible repeat (first | apply Kd.R_alloc | apply Kd.R_drewN | apply Kd.R_drew)); exact HO219.out⟩, ⟨by (with_reducible repeat (first | refine blk_drewN ?_ _ | refine blk_drew ?_ | refine blk_alloc ?_ _)); exact BK211.out⟩, ⟨by (with_reducible repeat (first | refine blk_drewN ?_ _ | refine blk_drew ?_ | refine blk_alloc ?_ _)); exact BK212.out⟩, ⟨by repeat (first | (with_reducible first | exact HB.out | apply below_alloc | apply pw_below_drewN | apply below_drew1 | refine below_set ?_ GE211.out | refine below_set ?_ GE212.out) | exact HB.out)⟩⟩
           ·rw [if_neg c20] at H
            exact absurd H (by simp)
          ·rw [if_neg c19] at H
           exact absurd H (by simp)
         ·rw [if_neg c18] at H
          exact absurd H (by simp)
        ·rw [if_neg c16] at H
         exact absurd H (by simp)
       ·rw [if_neg c15] at H
        exact absurd H (by simp)
      ·rw [if_neg c14] at H
       have c14b0 : (x16_1 == a1) = false := beq_eq_false_iff_ne.mpr c14
       have c14b1 : (x16_1 != a1) = true := bne_iff_ne.mpr c14
       by_cases c22 : x9_1.length < 8796093022208
       ·rw [if_pos c22] at H
        have LMc22 := aA c22
        clear c22
        obtain ⟨y220, hy220⟩ : ∃ y_ : List ByteArray, y_ = (x9_1 ++ [rdOf ByteArray.empty l0_0 x16_1]) := ⟨_, rfl⟩
        replace H : (foghornref02_Tear.l0 k1 a1 a2 a3 y220 l0_0 (l0_0.length : Int) (wrap64 (x16_1 + 1))) = some r := by first | (rw [hy220]; with_reducible exact H) | (have H2_ := (Option.bind_some _ _).symm.trans H; rw [hy220]; with_reducible exact H2_) | (have H2_ := (Option.bind_some _ _).symm.trans H; with_reducible exact H2_) | with_reducible exact H | (rw [hy220]; exact H) | exact H
        have Ny220 := aA hy220
        clear hy220
        have H' := aA H
        clear H
        have p216 : 0 ≤ (x16_1 : Int) := of_decide_eq_true (by first | (with_reducible assumption) | assumption)
        have q216 : x16_1 < (l0_0.length : Int) := of_decide_eq_true (by first | (with_reducible assumption) | assumption)
        obtain ⟨ad216, e216, hx216_0⟩ := Kd.at_string HR0_0.out x16_1 p216 q216
        cases e216
        replace hx216_0 := (HB.out.cell (World.block_lt_of_cell? w _ hx216_0)).trans hx216_0
        replace p216 := eq_true p216
        replace q216 := eq_true q216
        go_wp2_with (first | ((with_reducible refine gate_builtin (b := .append) (xs := #[.tmp 31, .tmp 33]) rfl ?_); at_builtin; refine Kd.R_append Kd.string (w0 := w) w.heap.size rfl (.tmp 31) (.tmp 33) 22 9 (.string ⟨#[]⟩) 16 rfl Try.underlying22 info9 rfl (by decide) (by omega) u9 x9_1 (rdOf ByteArray.empty l0_0 x16_1) [.string (rdOf ByteArray.empty l0_0 x16_1)] (fun _ => True) (fun _ => False) rfl rfl ?aP (fun _ hk => hk.elim) ?aF ?aO ?aB ?aS ?aL ?_; (case aP => exact rfl); (case aB => exact (mD2 GE211.out GE212.out)); (case aF => exact (fun _ _ => trivial)); (case aO => exact (mR HO_9.out)); (case aS => exact (below_size (mD2 GE211.out GE212.out))); (case aL => have := LMc22.out; omega); intro v221 w23 ho hb hg hat; rw [← Ny220.out] at ho; have n0_ := aA (blk_grown (g := gb211) (o := .cells #[.slice (some ad216) l0_0.length c0_0] 24 (0, 0)) (mK BK211.out) hg (Kd.R_ne HO_9.out BK211.out (by decide))); have n1_ := aA (blk_grown (g := gb212) (o := .cells #[.slice none 0 0] 24 (0, 0)) (mK BK212.out) hg (Kd.R_ne HO_9.out BK212.out (by decide))); have n2_ := aA (hb); have n3_ := aA (ho); clear BK211 BK212 HB HO_9; have BK211 := n0_; have BK212 := n1_; have HB := n2_; have HO222 := n3_; clear n0_ n1_ n2_ n3_ ho hb hg hat))
        repeat (go_quiet (first | ((with_reducible refine gate_builtin (b := .append) (xs := #[.tmp 31, .tmp 33]) rfl ?_); at_builtin; refine Kd.R_append Kd.string (w0 := w) w.heap.size rfl (.tmp 31) (.tmp 33) 22 9 (.string ⟨#[]⟩) 16 rfl Try.underlying22 info9 rfl (by decide) (by omega) u9 x9_1 (rdOf ByteArray.empty l0_0 x16_1) [.string (rdOf ByteArray.empty l0_0 x16_1)] (fun _ => True) (fun _ => False) rfl rfl ?aP (fun _ hk => hk.elim) ?aF ?aO ?aB ?aS ?aL ?_; (case aP => exact rfl); (case aB => exact (mD2 GE211.out GE212.out)); (case aF => exact (fun _ _ => trivial)); (case aO => exact (mR HO_9.out)); (case aS => exact (below_size (mD2 GE211.out GE212.out))); (case aL => have := LMc22.out; omega); intro v221 w23 ho hb hg hat; rw [← Ny220.out] at ho; have n0_ := aA (blk_grown (g := gb211) (o := .cells #[.slice (some ad216) l0_0.length c0_0] 24 (0, 0)) (mK BK211.out) hg (Kd.R_ne HO_9.out BK211.out (by decide))); have n1_ := aA (blk_grown (g := gb212) (o := .cells #[.slice none 0 0] 24 (0, 0)) (mK BK212.out) hg (Kd.R_ne HO_9.out BK212.out (by decide))); have n2_ := aA (hb); have n3_ := aA (ho); clear BK211 BK212 HB HO_9; have BK211 := n0_; have BK212 := n1_; have HB := n2_; have HO222 := n3_; clear n0_ n1_ n2_ n3_ ho hb hg hat)); try go_wp2_with (first | ((with_reducible refine gate_builtin (b := .append) (xs := #[.tmp 31, .tmp 33]) rfl ?_); at_builtin; refine Kd.R_append Kd.string (w0 := w) w.heap.size rfl (.tmp 31) (.tmp 33) 22 9 (.string ⟨#[]⟩) 16 rfl Try.underlying22 info9 rfl (by decide) (by omega) u9 x9_1 (rdOf ByteArray.empty l0_0 x16_1) [.string (rdOf ByteArray.empty l0_0 x16_1)] (fun _ => True) (fun _ => False) rfl rfl ?aP (fun _ hk => hk.elim) ?aF ?aO ?aB ?aS ?aL ?_; (case aP => exact rfl); (case aB => exact (mD2 GE211.out GE212.out)); (case aF => exact (fun _ _ => trivial)); (case aO => exact (mR HO_9.out)); (case aS => exact (below_size (mD2 GE211.out GE212.out))); (case aL => have := LMc22.out; omega); intro v221 w23 ho hb hg hat; rw [← Ny220.out] at ho; have n0_ := aA (blk_grown (g := gb211) (o := .cells #[.slice (some ad216) l0_0.length c0_0] 24 (0, 0)) (mK BK211.out) hg (Kd.R_ne HO_9.out BK211.out (by decide))); have n1_ := aA (blk_grown (g := gb212) (o := .cells #[.slice none 0 0] 24 (0, 0)) (mK BK212.out) hg (Kd.R_ne HO_9.out BK212.out (by decide))); have n2_ := aA (hb); have n3_ := aA (ho); clear BK211 BK212 HB HO_9; have BK211 := n0_; have BK212 := n1_; have HB := n2_; have HO222 := n3_; clear n0_ n1_ n2_ n3_ ho hb hg hat)))
        go_roundg k1
        case measure => have := HK1.out; omega
        case rel => exact ⟨(y220), (wrap64 (x16_1 + 1)), (by first | rfl | (simp; done) | (simp [*]; done)), H', ⟨by have := HK1.out; omega⟩, ⟨by (with_reducible repeat (first | apply Kd.R_alloc | apply Kd.R_drewN | apply Kd.R_drew)); exact HO222.out⟩, ⟨by (with_reducible repeat (first | refine blk_drewN ?_ _ | refine blk_drew ?_ | refine blk_alloc ?_ _)); exact BK211.out⟩, ⟨by (with_reducible repeat (first | refine blk_drewN ?_ _ | refine blk_drew ?_ | refine blk_alloc ?_ _)); exact BK212.out⟩, ⟨by repeat (first | (with_reducible first | exact HB.out | apply below_alloc | apply pw_below_drewN | apply below_drew1 | refine below_set ?_ GE211.out | refine below_set ?_ GE212.out) | exact HB.out)⟩⟩
       ·rw [if_neg c22] at H
        exact absurd H (by simp)
     ·rw [if_neg c13] at H
      exact absurd H (by simp)
    ·rw [if_neg c12] at H
     exact absurd H (by simp)
   ·rw [if_neg c11] at H
    have c11b0 : decide (x16_1 < (l0_0.length : Int)) = false := decide_eq_false c11
    clear c11
    obtain rfl := Option.some.inj H
    obtain ⟨Ao24, co24, eo24⟩ := Kd.R_slice HO_9.out
    subst eo24
    have hnb25 := NB212_211.out
    have hnc25 := NB211_212.out
    have hcz26_0 : wr.cell? ⟨gb212, 0, none⟩ = some (.slice none 0 0) := (blk_cell BK212.out 0).trans rfl
    have hfz26_0 := blk_frozen BK212.out 0
    go_wp2
    repeat (go_quiet (fail); try go_wp2)
    refine bodyPost_ret (results_cell_row rfl _ _ gb212 24 #[.slice Ao24 x9_1.length co24] (0, 0) _ rfl (by (with_reducible repeat (first | refine blk_drewN ?_ _ | refine blk_drew ?_ | refine blk_alloc ?_ _)); have h_ := BK212.out; exact pK 0 (h_)) Try.underlying24 rfl (by kernel_rfl)) rfl ?_
    exact ⟨_, by first | rfl | (simp [errW_none, errW_some] <;> rfl) | (simp [*, errW_none, errW_some] <;> rfl), by (with_reducible repeat (first | apply Kd.R_alloc | apply Kd.R_drewN | apply Kd.R_drew)); exact Kd.R_mono (rF 0 (Kd.R_types HO_9.out BK212.out (by decide))) (fun _ hk => trivial), by repeat (first | (with_reducible first | exact HB.out | apply below_alloc | apply pw_below_drewN | apply below_drew1 | refine below_set ?_ GE211.out | refine below_set ?_ GE212.out) | exact HB.out)⟩
end Go.Proofs.YtopaddpclipnjaaQ.P
namespace Go.Proofs.YtopaddpclipnjaaQ.P
open Go.RowKit Go.Proofs.YtopaddpclipnjaaW.PrintWords Go.Proofs.YtopaddpclipnjaaW.PrintLast Go.Proofs.YtopaddpclipnjaaW.PrintMore
attribute [local go_sem] max2_int min2_int max_two min_two max_three min_three max_four min_four
def foghornref02_Write.f (k : Nat) (l0_0 : List ByteArray) (a1 : Int) (a2 : ByteArray) : Option (List ByteArray) := (foghornref02_Tear.f k l0_0 a1 a2 128).bind fun t225 => (some t225)
theorem foghornref02_Write.mono : ∀ a0 a1 a2 k, LeO (foghornref02_Write.f k a0 a1 a2) (foghornref02_Write.f (k + 1) a0 a1 a2) := by
 intro a0 a1 a2 k
 unfold foghornref02_Write.f
 repeat' first
   | (with_reducible exact foghornref02_Tear.mono _ _ _ _ _)
   | (with_reducible exact LeO.refl _)
   | (with_reducible exact LeO.none _)
   | (with_reducible refine LeO.ite ?_ ?_)
   | (with_reducible refine LeO.bind ?_ (fun _ => ?_))
   | exact foghornref02_Tear.mono _ _ _ _ _
   | exact LeO.none _
   | refine LeO.ite ?_ ?_
   | refine LeO.bind ?_ (fun _ => ?_)
set_option maxHeartbeats 8000000 in
set_option maxRecDepth 100000 in
theorem foghornref02_Write.calls (k : Nat) (A0_0 : Option Addr) (c0_0 : Nat) (l0_0 : List ByteArray) (a1 : Int) (a2 : ByteArray) (r : List ByteArray) (w : World) (hr0_0 : Kd.C Kd.string w A0_0 l0_0.length l0_0) (hc0_0 : l0_0.length ≤ c0_0) (h : foghornref02_Write.f k l0_0 a1 a2 = some r) :
  Calls Try.prog 40 #[.agg #[.slice A0_0 l0_0.length c0_0], .int .i64 a1, .string a2] w fun e w' => ∃ v0_ : Value, e = .returned (.agg #[v0_]) ∧ Kd.R Kd.string 9 w' w.heap.size (fun _ => True) v0_ r ∧ Below w.heap.size w w' := by
 have hu24 := Try.underlying24
 have HR0_0 := aA hr0_0
 have HC0_0 := aA hc0_0
 clear hr0_0 hc0_0
 have HB := aA (Below.refl w.heap.size w)
 have H : ((foghornref02_Tear.f k l0_0 a1 a2 128).bind fun t225 => (some t225)) = some r := h
 clear h
 replace H := Option.bind_eq_some_iff.mp H
 obtain ⟨t225, A40, H⟩ := H
 have A4 := aA A40
 clear A40
 obtain rfl := Option.some.inj H
 go_enter Try.func40, Try.ntmps40
 go_wp2_with (first | ((with_reducible refine gate_dst (N := 3) rfl ?_); refine box_event ?hg (N := 3) ?hd (cs := #[.slice A0_0 l0_0.length c0_0]) (t := 24) ?hr ?_; (case hd => rfl); (case hg => rfl); (case hr => first | (go_simp; done) | (go_simp; rfl)); intro gb223 hg w5 hbox hb; have n0_ := aA (below_step mB hb); have n1_ := aA (hbox); have n2_ := aA ((bZ hg mB)); have n3_ := aA ((bZ hg mB)); clear HB; have HB := n0_; have BK223 := n1_; have GW223 := n2_; have GE223 := n3_; clear n0_ n1_ n2_ n3_ hb hbox hg) | ((with_reducible refine gate_dst (N := 6) rfl ?_); refine box_event ?hg (N := 6) ?hd (cs := #[.slice none 0 0]) (t := 24) ?hr ?_; (case hd => rfl); (case hg => rfl); (case hr => first | (go_simp; done) | (go_simp; rfl)); intro gb224 hg w6 hbox hb; have n0_ := aA (bB BK223.out hb); have n1_ := aA (below_step (mD1 GE223.out) hb); have n2_ := aA (hbox); have n3_ := aA ((bZ hg (mD1 GE223.out))); have n4_ := aA ((bZ hg (mD1 GE223.out))); have n5_ := aA ((bL hg BK223.out)); have n6_ := aA ((bG hg BK223.out)); clear BK223 HB; have BK223 := n0_; have HB := n1_; have BK224 := n2_; have GW224 := n3_; have GE224 := n4_; have NB223_224 := n5_; have NB224_223 := n6_; clear n0_ n1_ n2_ n3_ n4_ n5_ n6_ hb hbox hg; have hnb7 := NB223_224.out; have hnc7 := NB224_223.out; have hcz8_0 : w6.cell? ⟨gb223, 0, none⟩ = some (.slice A0_0 l0_0.length c0_0) := (blk_cell BK223.out 0).trans rfl; have hfz8_0 := blk_frozen BK223.out 0) | ((with_reducible refine gate_callee (f := 61) rfl ?_); refine goesL_ (some 10) rfl rfl Try.func61 (by kernel_rfl) rfl #[.agg #[.slice A0_0 l0_0.length c0_0], .int .i64 a1, .string a2, .int .i64 128] rfl mS ?_; (with_reducible refine (foghornref02_Tear.calls k _ _ l0_0 a1 a2 128 t225 _ ?side1 ?side2 A4.out).mono ?_); (case side1 => exact mC ((Kd.C_below HR0_0.out HB.out))); (case side2 => exact HC0_0.out); rintro e w9 ⟨v226, rfl, ho0, hb⟩; refine ⟨_, rfl, ?_⟩; have n0_ := aA (Kd.R_lower ho0 (below_size (mD2 GE223.out GE224.out))); have n1_ := aA (bB BK223.out hb); have n2_ := aA (bB BK224.out hb); have n3_ := aA (below_step (mD2 GE223.out GE224.out) hb); clear BK223 BK224 HB; have HO227 := n0_; have BK223 := n1_; have BK224 := n2_; have HB := n3_; clear n0_ n1_ n2_ n3_; (try clear hb); (try clear hb2); (try clear hk); (try clear hi); (try clear ho0); obtain ⟨Ao10, co10, eo10⟩ := Kd.R_slice HO227.out; subst eo10; have hcz11_0 : w9.cell? ⟨gb224, 0, none⟩ = some (.slice none 0 0) := (blk_cell BK224.out 0).trans rfl; have hfz11_0 := blk_frozen BK224.out 0))
 refine bodyPost_ret (results_cell_row rfl _ _ gb224 24 #[.slice Ao10 t225.length co10] (0, 0) _ rfl (by (with_reducible repeat (first | refine blk_drewN ?_ _ | refine blk_drew ?_ | refine blk_alloc ?_ _)); have h_ := BK224.out; exact pK 0 (h_)) Try.underlying24 rfl (by kernel_rfl)) rfl ?_
 exact ⟨_, by first | rfl | (simp [errW_none, errW_some] <;> rfl) | (simp [*, errW_none, errW_some] <;> rfl), by (with_reducible repeat (first | apply Kd.R_alloc | apply Kd.R_drewN | apply Kd.R_drew)); exact Kd.R_mono (rF 0 (Kd.R_types HO227.out BK224.out (by decide))) (fun _ hk => trivial), by repeat (first | (with_reducible first | exact HB.out | apply below_alloc | apply pw_below_drewN | apply below_drew1 | refine below_set ?_ GE223.out | refine below_set ?_ GE224.out) | exact HB.out)⟩
end Go.Proofs.YtopaddpclipnjaaQ.P
namespace Go.Proofs.YtopaddpclipnjaaQ.P
open Go.RowKit Go.Proofs.YtopaddpclipnjaaW.PrintWords Go.Proofs.YtopaddpclipnjaaW.PrintLast Go.Proofs.YtopaddpclipnjaaW.PrintMore
attribute [local go_sem] max2_int min2_int max_two min_two max_three min_three max_four min_four
def foghornref02_Zeros.l0 : Nat → Int → ByteArray → Int → Option (ByteArray)
 | 0, _, _, _ => none
 | k + 1, x0, x3, x4 => if x4 < x0 then (if x3.size + 1 ≤ 9223372036854775807 then (foghornref02_Zeros.l0 k x0 (x3 ++ (⟨#[0]⟩ : ByteArray)) (wrap64 (x4 + 1))) else (none)) else (some x3)
def foghornref02_Zeros.f (k : Nat) (a0 : Int) : Option (ByteArray) := foghornref02_Zeros.l0 k a0 (⟨#[]⟩ : ByteArray) 0
theorem foghornref02_Zeros.mono_l : ∀ k, (∀ y0 y1 y2, LeO (foghornref02_Zeros.l0 k y0 y1 y2) (foghornref02_Zeros.l0 (k + 1) y0 y1 y2))
 | 0 => fun _ _ _ r h => by simp [foghornref02_Zeros.l0] at h
 | k + 1 => by
  have ih0 := foghornref02_Zeros.mono_l k
  ·intro y0 y1 y2
   unfold foghornref02_Zeros.l0
   repeat' first
   | (with_reducible exact ih0 _ _ _)
   | (with_reducible exact LeO.refl _)
   | (with_reducible exact LeO.none _)
   | (with_reducible refine LeO.ite ?_ ?_)
   | (with_reducible refine LeO.bind ?_ (fun _ => ?_))
   | exact ih0 _ _ _
   | exact LeO.none _
   | refine LeO.ite ?_ ?_
   | refine LeO.bind ?_ (fun _ => ?_)
theorem foghornref02_Zeros.mono : ∀ a0 k, LeO (foghornref02_Zeros.f k a0) (foghornref02_Zeros.f (k + 1) a0) := by
 intro a0 k
 have ih0 := foghornref02_Zeros.mono_l k
 unfold foghornref02_Zeros.f
 repeat' first
   | (with_reducible exact ih0 _ _ _)
   | (with_reducible exact LeO.refl _)
   | (with_reducible exact LeO.none _)
   | (with_reducible refine LeO.ite ?_ ?_)
   | (with_reducible refine LeO.bind ?_ (fun _ => ?_))
   | exact ih0 _ _ _
   | exact LeO.none _
   | refine LeO.ite ?_ ?_
   | refine LeO.bind ?_ (fun _ => ?_)
set_option maxHeartbeats 8000000 in
set_option maxRecDepth 100000 in
theorem foghornref02_Zeros.calls (k : Nat) (a0 : Int) (r : ByteArray) (w : World) (h : foghornref02_Zeros.f k a0 = some r) :
  Calls Try.prog 62 #[.int .i64 a0] w fun e w' => e = .returned (.string r) ∧ Drawn0 w w' := by
 have H : (foghornref02_Zeros.l0 k a0 (⟨#[]⟩ : ByteArray) 0) = some r := h
 clear h
 have H' := aA H
 clear H
 go_enter Try.func62, Try.ntmps62
 go_wp2
 go_loopg [3, 4] k (fun kq v3 v4 w' => ∃ (x3_1 : ByteArray) (x4_1 : Int), v3 = .string x3_1 ∧ v4 = .int .i64 x4_1 ∧ Aside0 (foghornref02_Zeros.l0 kq a0 x3_1 x4_1 = some r) ∧ Aside0 (kq ≤ k) ∧ Drawn0 w w')
 case atStart => exact ⟨((⟨#[]⟩ : ByteArray)), (0), (by first | rfl | (simp; done) | (simp [*]; done)), (by first | rfl | (simp; done) | (simp [*]; done)), H', ⟨Nat.le_refl _⟩, by repeat (first | exact Drawn0.refl _ | apply Drawn0.step)⟩
 case round =>
  clear H'
  obtain ⟨x3_1, x4_1, rfl, rfl, HA, HK1, ⟨m1, rfl⟩⟩ := hrel
  cases gk with
  | zero => exact absurd HA.out (by simp [foghornref02_Zeros.l0])
  | succ k1 =>
   have H := HA.out
   clear HA
   simp only [foghornref02_Zeros.l0] at H
   by_cases c2 : x4_1 < a0
   ·rw [if_pos c2] at H
    have c2b0 : decide (x4_1 < a0) = true := decide_eq_true c2
    clear c2
    by_cases c3 : x3_1.size + 1 ≤ 9223372036854775807
    ·rw [if_pos c3] at H
     have c3b0 := eq_true c3
     have c3b1 := decide_eq_true c3
     try have c3b2 : (9223372036854775807 < x3_1.size + 1) = False := eq_false (Nat.not_lt.2 c3)
     have H' := aA H
     clear H
     go_wp2
     go_roundg k1
     case measure => have := HK1.out; omega
     case rel => exact ⟨(x3_1 ++ (⟨#[0]⟩ : ByteArray)), (wrap64 (x4_1 + 1)), (by first | rfl | (simp; done) | (simp [*]; done)), (by first | rfl | (simp; done) | (simp [*]; done)), H', ⟨by have := HK1.out; omega⟩, by repeat (first | exact Drawn0.refl _ | apply Drawn0.step)⟩
    ·rw [if_neg c3] at H
     exact absurd H (by simp)
   ·rw [if_neg c2] at H
    have c2b0 : decide (x4_1 < a0) = false := decide_eq_false c2
    clear c2
    obtain rfl := Option.some.inj H
    go_wp2
    go_ret
    exact ⟨by first | rfl | (simp; done) | (simp [*]; done), by repeat (first | exact Drawn0.refl _ | apply Drawn0.step)⟩
end Go.Proofs.YtopaddpclipnjaaQ.P
namespace Go.Proofs.YtopaddpclipnjaaQ.P
open Go.RowKit Go.Proofs.YtopaddpclipnjaaW.PrintWords Go.Proofs.YtopaddpclipnjaaW.PrintLast Go.Proofs.YtopaddpclipnjaaW.PrintMore
attribute [local go_sem] max2_int min2_int max_two min_two max_three min_three max_four min_four
def foghornref02_New.l0 : Nat → Int → Int → List ByteArray → Option (List ByteArray)
 | 0, _, _, _ => none
 | k + 1, x0, x4, x230000 => if x4 < x0 then ((foghornref02_Zeros.f k 128).bind fun t230 => (if x230000.length < 8796093022208 then (foghornref02_New.l0 k x0 (wrap64 (x4 + 1)) (x230000 ++ [t230])) else (none))) else (some x230000)
def foghornref02_New.f (k : Nat) (a0 : Int) : Option (List ByteArray) := foghornref02_New.l0 k a0 0 ([] : List ByteArray)
theorem foghornref02_New.mono_l : ∀ k, (∀ y0 y1 y2, LeO (foghornref02_New.l0 k y0 y1 y2) (foghornref02_New.l0 (k + 1) y0 y1 y2))
 | 0 => fun _ _ _ r h => by simp [foghornref02_New.l0] at h
 | k + 1 => by
  have ih0 := foghornref02_New.mono_l k
  ·intro y0 y1 y2
   unfold foghornref02_New.l0
   repeat' first
   | (with_reducible exact ih0 _ _ _)
   | (with_reducible exact foghornref02_Zeros.mono _ _)
   | (with_reducible exact LeO.refl _)
   | (with_reducible exact LeO.none _)
   | (with_reducible refine LeO.ite ?_ ?_)
   | (with_reducible refine LeO.bind ?_ (fun _ => ?_))
   | exact ih0 _ _ _
   | exact foghornref02_Zeros.mono _ _
   | exact LeO.none _
   | refine LeO.ite ?_ ?_
   | refine LeO.bind ?_ (fun _ => ?_)
theorem foghornref02_New.mono : ∀ a0 k, LeO (foghornref02_New.f k a0) (foghornref02_New.f (k + 1) a0) := by
 intro a0 k
 have ih0 := foghornref02_New.mono_l k
 unfold foghornref02_New.f
 repeat' first
   | (with_reducible exact ih0 _ _ _)
   | (with_reducible exact foghornref02_Zeros.mono _ _)
   | (with_reducible exact LeO.refl _)
   | (with_reducible exact LeO.none _)
   | (with_reducible refine LeO.ite ?_ ?_)
   | (with_reducible refine LeO.bind ?_ (fun _ => ?_))
   | exact ih0 _ _ _
   | exact foghornref02_Zeros.mono _ _
   | exact LeO.none _
   | refine LeO.ite ?_ ?_
   | refine LeO.bind ?_ (fun _ => ?_)
set_option maxHeartbeats 8000000 in
set_option maxRecDepth 100000 in
theorem foghornref02_New.calls (k : Nat) (a0 : Int) (r : List ByteArray) (w : World) (h : foghornref02_New.f k a0 = some r) :
  Calls Try.prog 41 #[.int .i64 a0] w fun e w' => ∃ v0_ : Value, e = .returned (.agg #[v0_]) ∧ Kd.R Kd.string 9 w' w.heap.size (fun _ => True) v0_ r ∧ Below w.heap.size w w' := by
 have hu24 := Try.underlying24
 have HB := aA (Below.refl w.heap.size w)
 have H : (foghornref02_New.l0 k a0 0 ([] : List ByteArray)) = some r := h
 clear h
 have H' := aA H
 clear H
 go_enter Try.func41, Try.ntmps41
 go_wp2_with (first | ((with_reducible refine gate_dst (N := 2) rfl ?_); refine box_event ?hg (N := 2) ?hd (cs := #[.slice none 0 0]) (t := 24) ?hr ?_; (case hd => rfl); (case hg => rfl); (case hr => first | (go_simp; done) | (go_simp; rfl)); intro gb228 hg w2 hbox hb; have n0_ := aA (below_step mB hb); have n1_ := aA (hbox); have n2_ := aA ((bZ hg mB)); have n3_ := aA ((bZ hg mB)); clear HB; have HB := n0_; have BK228 := n1_; have GW228 := n2_; have GE228 := n3_; clear n0_ n1_ n2_ n3_ hb hbox hg) | ((with_reducible refine gate_dst (N := 3) rfl ?_); refine box_event ?hg (N := 3) ?hd (cs := #[.slice none 0 0]) (t := 24) ?hr ?_; (case hd => rfl); (case hg => rfl); (case hr => first | (go_simp; done) | (go_simp; rfl)); intro gb229 hg w3 hbox hb; have n0_ := aA (bB BK228.out hb); have n1_ := aA (below_step (mD1 GE228.out) hb); have n2_ := aA (hbox); have n3_ := aA ((bZ hg (mD1 GE228.out))); have n4_ := aA ((bZ hg (mD1 GE228.out))); have n5_ := aA ((bL hg BK228.out)); have n6_ := aA ((bG hg BK228.out)); clear BK228 HB; have BK228 := n0_; have HB := n1_; have BK229 := n2_; have GW229 := n3_; have GE229 := n4_; have NB228_229 := n5_; have NB229_228 := n6_; clear n0_ n1_ n2_ n3_ n4_ n5_ n6_ hb hbox hg; have hnb4 := NB229_228.out; have hnc4 := NB228_229.out; have hcz5_0 : w3.cell? ⟨gb229, 0, none⟩ = some (.slice none 0 0) := (blk_cell BK229.out 0).trans rfl; have hfz5_0 := blk_frozen BK229.out 0))
 go_loopg [4] k (fun kq v4 w' => ∃ (x4_1 : Int) (x230000_1 : List ByteArray) (u230000 : Value), v4 = .int .i64 x4_1 ∧ Aside0 (foghornref02_New.l0 kq a0 x4_1 x230000_1 = some r) ∧ Aside0 (kq ≤ k) ∧ Aside0 (Kd.R Kd.string 9 w' w.heap.size (fun _ => True) u230000 x230000_1) ∧ Aside0 (w'.heap[gb228]? = some (.cells #[(.slice none 0 0)] 24 (0, 0))) ∧ Aside0 (w'.heap[gb229]? = some (.cells #[u230000] 24 (0, 0))) ∧ Aside0 (Below w.heap.size w w'))
 case atStart => exact ⟨(0), (([] : List ByteArray)), (.slice none 0 0), (by first | rfl | (simp; done) | (simp [*]; done)), H', ⟨Nat.le_refl _⟩, ⟨by first | exact Kd.R_nil _ _ _ _ _ | exact Kd.N_nil _ _ _ _ _ | exact Kd.V_nil _ _ _ _ _ | exact Kd.Q_nil _ _ _ _ _ | exact Kd.S_nil _ _ _ _ _⟩, ⟨by (with_reducible repeat (first | refine blk_drewN ?_ _ | refine blk_drew ?_ | refine blk_alloc ?_ _)); refine blk_far ?_ NB228_229.out _; (with_reducible repeat (first | refine blk_drewN ?_ _ | refine blk_drew ?_ | refine blk_alloc ?_ _)); exact BK228.out⟩, ⟨by (with_reducible repeat (first | refine blk_drewN ?_ _ | refine blk_drew ?_ | refine blk_alloc ?_ _)); refine blk_put (cs := #[.slice none 0 0]) ?_ 0 _ rfl; (with_reducible repeat (first | refine blk_drewN ?_ _ | refine blk_drew ?_ | refine blk_alloc ?_ _)); exact BK229.out⟩, ⟨by repeat (first | (with_reducible first | exact HB.out | apply below_alloc | apply pw_below_drewN | apply below_drew1 | refine below_set ?_ GE228.out | refine below_set ?_ GE229.out) | exact HB.out)⟩⟩
 case round =>
  clear H'
  try clear p2
  try clear c4
  try clear hcz5_0
  try clear hfz5_0
  obtain ⟨x4_1, x230000_1, u230000, rfl, HA, HK1, HO_230000, BK228, BK229, HB⟩ := hrel
  cases gk with
  | zero => exact absurd HA.out (by simp [foghornref02_New.l0])
  | succ k1 =>
   have H := HA.out
   clear HA
   simp only [foghornref02_New.l0] at H
   by_cases c6 : x4_1 < a0
   ·rw [if_pos c6] at H
    have c6b0 : decide (x4_1 < a0) = true := decide_eq_true c6
    clear c6
    replace H := Option.bind_eq_some_iff.mp H
    obtain ⟨t230, A70, H⟩ := H
    have A7 := aA A70
    clear A70
    by_cases c8 : x230000_1.length < 8796093022208
    ·rw [if_pos c8] at H
     have LMc8 := aA c8
     clear c8
     obtain ⟨y231, hy231⟩ : ∃ y_ : List ByteArray, y_ = (x230000_1 ++ [t230]) := ⟨_, rfl⟩
     replace H : (foghornref02_New.l0 k1 a0 (wrap64 (x4_1 + 1)) y231) = some r := by first | (rw [hy231]; with_reducible exact H) | (have H2_ := (Option.bind_some _ _).symm.trans H; rw [hy231]; with_reducible exact H2_) | (have H2_ := (Option.bind_some _ _).symm.trans H; with_reducible exact H2_) | with_reducible exact H | (rw [hy231]; exact H) | exact H
     have Ny231 := aA hy231
     clear hy231
     have H' := aA H
     clear H
     try go_wp2
     have n0_ := aA (Kd.R_drew HO_230000.out)
     have n1_ := aA (blk_drew BK228.out)
     have n2_ := aA (blk_drew BK229.out)
     have n3_ := aA (below_drew1 HB.out)
     clear HO_230000
     clear BK228
     clear BK229
     clear HB
     have HO_230000 := n0_
     have BK228 := n1_
     have BK229 := n2_
     have HB := n3_
     clear n0_ n1_ n2_ n3_
     refine start_ (n := 7) (S := fun w' => w'.cell? ⟨gb229, 0, none⟩ = some (u230000)) (ds := [6]) #[false, false, false, false, false, false, false] (by kernel_rfl) rfl rfl ((blk_cell BK229.out 0).trans rfl) (fun hHeld => ?_)
     generalize wr.drew = w9 at HO_230000 BK228 BK229 HB hHeld ⊢
     refine pure_ (i := 0) (N := some 11) (v := ?_) (a' := ?_) #[true, false, false, false, false, false, false] rfl rfl (by kernel_rfl) (fun _ _ _ h => h) (Or.inl ⟨by rfl, ?_⟩) ?_ ?_
     rotate_left
     ·intro w'
      go_simp
      with_reducible rfl
     rotate_left
     ·exact mP
     refine take_ (i := 1) (N := some 12) (v := ?_) (a' := ?_) #[true, true, false, false, false, false, false] rfl rfl (by kernel_rfl) (fun _ _ _ h => h) (Or.inl ⟨by rfl, ?_⟩) hHeld ?_ ?_
     rotate_left
     ·intro w' s0
      go_simp
      with_reducible rfl
     rotate_left
     ·exact mP
     refine one_ (i := 2) (N := some 13) #[true, true, true, false, false, false, false] rfl rfl (by kernel_rfl) (by decide) (fun K hK => ?_)
     refine goes_ Try.func62 (by kernel_rfl) rfl #[.int .i64 128] (by rfl) rfl rfl mS ?_
     with_reducible refine (foghornref02_Zeros.calls k1 128 t230 _ A7.out).mono ?_
     rintro e w' ⟨rfl, ⟨nd, rfl⟩⟩
     refine ⟨_, rfl, ?_⟩
     refine hK.out _ _ ((blk_cell BK229.out 0).trans rfl) (fun hHeld => ?_)
     clear hK K
     refine norm_ (a' := ?_) ?_ ?_
     rotate_left
     ·show Act.put _ (some 13) _ = _
      simp only [Act.put, List.setIfInBounds_toArray, List.set_cons_zero, List.set_cons_succ, i64_w, i32_w]
      rfl
     refine one_ (i := 3) (N := some 14) #[true, true, true, true, false, false, false] rfl rfl (by kernel_rfl) (by decide) (fun K hK => ?_)
     refine value_ (w1 := ?_) (v := ?_) (by rfl) rfl ?_ ?_
     rotate_left 2
     ·go_simp
      constructor
      ·rfl
      ·rfl
     refine hK.out _ _ ((blk_cell (blk_alloc BK229.out _) 0).trans rfl) (fun hHeld => ?_)
     clear hK K
     refine norm_ (a' := ?_) ?_ ?_
     rotate_left
     ·show Act.put _ (some 14) _ = _
      simp only [Act.put, List.setIfInBounds_toArray, List.set_cons_zero, List.set_cons_succ, i64_w, i32_w]
      rfl
     refine one_ (i := 4) (N := some 15) #[true, true, true, true, true, false, false] rfl rfl (by kernel_rfl) (by decide) (fun K hK => ?_)
     refine Kd.R_append_step Kd.string (w0 := w) w.heap.size (by rfl) (.tmp 12) (.tmp 14) 22 9 (.string ⟨#[]⟩) 16 rfl Try.underlying22 info9 rfl (by decide) (by omega) u230000 x230000_1 t230 [.string t230] (fun _ => True) (fun _ => False) rfl rfl ?aP (fun _ hk => hk.elim) ?aF ?aO ?aB ?aS ?aL ?_
     (case aP => exact rfl)
     (case aB => exact (mD2 GE228.out GE229.out))
     (case aF => exact (fun _ _ => trivial))
     (case aO => exact (mR HO_230000.out))
     (case aS => exact (below_size (mD2 GE228.out GE229.out)))
     (case aL => have := LMc8.out; omega)
     intro v232 w10 ho hb hg hat
     rw [← Ny231.out] at ho
     have n0_ := aA (blk_grown (g := gb228) (o := .cells #[.slice none 0 0] 24 (0, 0)) (mK BK228.out) hg (Kd.R_ne HO_230000.out BK228.out (by decide)))
     have n1_ := aA (blk_grown (g := gb229) (o := .cells #[u230000] 24 (0, 0)) (mK BK229.out) hg (Kd.R_ne HO_230000.out BK229.out (by decide)))
     have n2_ := aA (hb)
     have n3_ := aA (ho)
     clear BK228
     clear BK229
     clear HB
     clear HO_230000
     have BK228 := n0_
     have BK229 := n1_
     have HB := n2_
     have HO233 := n3_
     clear n0_ n1_ n2_ n3_
     clear ho hb hg hat
     obtain ⟨Ao11, co11, eo11⟩ := Kd.R_slice HO233.out
     (first | subst eo11 | (injection eo11 with f1_ f2_ f3_; have f4_ := f1_.symm; have f5_ := f3_.symm; clear f1_ f2_ f3_; subst f4_; subst f5_))
     refine hK.out _ _ ((blk_cell BK229.out 0).trans rfl) (fun hHeld => ?_)
     clear hK K
     refine norm_ (a' := ?_) ?_ ?_
     rotate_left
     ·show Act.put _ (some 15) _ = _
      simp only [Act.put, List.setIfInBounds_toArray, List.set_cons_zero, List.set_cons_succ, i64_w, i32_w]
      rfl
     refine pure_ (i := 5) (N := some 16) (v := ?_) (a' := ?_) #[true, true, true, true, true, true, false] rfl rfl (by kernel_rfl) (fun _ _ _ h => h) (Or.inl ⟨by rfl, ?_⟩) ?_ ?_
     rotate_left
     ·intro w'
      go_simp
      with_reducible rfl
     rotate_left
     ·exact mP
     refine last_ (i := 6) (N := none) #[true, true, true, true, true, true, true] rfl rfl (by kernel_rfl) (by decide) (fun K hK => ?_)
     have hs12 : w10.cell? ⟨gb229, 0, none⟩ = some (u230000) := (blk_cell BK229.out 0).trans rfl
     have hfs12 := blk_frozen BK229.out 0
     have hns12_0 := NB228_229.out
     have hms12_0 := NB229_228.out
     refine skip_ (w1 := ?_) (by rfl) rfl ?_ ?_
     rotate_left
     ·go_simp
      rfl
     refine hK.out _ _ ?_
     clear hK K
     refine done_ (by kernel_rfl) ?_
     try go_wp2
     go_roundg k1
     case measure => have := HK1.out; omega
     case rel => exact ⟨(wrap64 (x4_1 + 1)), (y231), (.slice Ao11 y231.length co11), (by first | rfl | (simp; done) | (simp [*]; done)), H', ⟨by have := HK1.out; omega⟩, ⟨by (with_reducible repeat (first | apply Kd.R_alloc | apply Kd.R_drewN | apply Kd.R_drew)); exact Kd.R_mono (rF 0 (Kd.R_types HO233.out BK229.out (by decide))) (fun _ hk => trivial)⟩, ⟨by (with_reducible repeat (first | refine blk_drewN ?_ _ | refine blk_drew ?_ | refine blk_alloc ?_ _)); refine blk_far ?_ NB228_229.out _; (with_reducible repeat (first | refine blk_drewN ?_ _ | refine blk_drew ?_ | refine blk_alloc ?_ _)); exact BK228.out⟩, ⟨by (with_reducible repeat (first | refine blk_drewN ?_ _ | refine blk_drew ?_ | refine blk_alloc ?_ _)); refine blk_put (cs := #[u230000]) ?_ 0 _ rfl; (with_reducible repeat (first | refine blk_drewN ?_ _ | refine blk_drew ?_ | refine blk_alloc ?_ _)); exact BK229.out⟩, ⟨by repeat (first | (with_reducible first | exact HB.out | apply below_alloc | apply pw_below_drewN | apply below_drew1 | refine below_set ?_ GE228.out | refine below_set ?_ GE229.out) | exact HB.out)⟩⟩
    ·rw [if_neg c8] at H
     exact absurd H (by simp)
   ·rw [if_neg c6] at H
    have c6b0 : decide (x4_1 < a0) = false := decide_eq_false c6
    clear c6
    obtain rfl := Option.some.inj H
    have hnb13 := NB229_228.out
    have hnc13 := NB228_229.out
    have hcz14_0 : wr.cell? ⟨gb229, 0, none⟩ = some (u230000) := (blk_cell BK229.out 0).trans rfl
    have hfz14_0 := blk_frozen BK229.out 0
    obtain ⟨Ao15, co15, eo15⟩ := Kd.R_slice HO_230000.out
    subst eo15
    have hcz16_0 : wr.cell? ⟨gb228, 0, none⟩ = some (.slice none 0 0) := (blk_cell BK228.out 0).trans rfl
    have hfz16_0 := blk_frozen BK228.out 0
    go_wp2
    refine bodyPost_ret (results_cell_row rfl _ _ gb228 24 #[.slice Ao15 x230000_1.length co15] (0, 0) _ rfl (by (with_reducible repeat (first | refine blk_drewN ?_ _ | refine blk_drew ?_ | refine blk_alloc ?_ _)); have h_ := BK228.out; exact pK 0 (h_)) Try.underlying24 rfl (by kernel_rfl)) rfl ?_
    exact ⟨_, by first | rfl | (simp [errW_none, errW_some] <;> rfl) | (simp [*, errW_none, errW_some] <;> rfl), by (with_reducible repeat (first | apply Kd.R_alloc | apply Kd.R_drewN | apply Kd.R_drew)); exact Kd.R_mono (rF 0 (Kd.R_types HO_230000.out BK228.out (by decide))) (fun _ hk => trivial), by repeat (first | (with_reducible first | exact HB.out | apply below_alloc | apply pw_below_drewN | apply below_drew1 | refine below_set ?_ GE228.out | refine below_set ?_ GE229.out) | exact HB.out)⟩
end Go.Proofs.YtopaddpclipnjaaQ.P
namespace Go.Proofs.YtopaddpclipnjaaQ.P
open Go.RowKit Go.Proofs.YtopaddpclipnjaaW.PrintWords Go.Proofs.YtopaddpclipnjaaW.PrintLast Go.Proofs.YtopaddpclipnjaaW.PrintMore
attribute [local go_sem] max2_int min2_int max_two min_two max_three min_three max_four min_four
def foghornref04_New.f (k : Nat) (a0 : Int) : Option (List ByteArray × Int × Int × Int × Bool) := (foghornref02_New.f k a0).bind fun t235 => ((foghornref03_Seal.f 1 0 (⟨#[]⟩ : ByteArray)).bind fun t238 => ((foghornref02_Write.f k t235 1 t238).bind fun t239 => (some (t239, 1, 0, 1, false))))
theorem foghornref04_New.mono : ∀ a0 k, LeO (foghornref04_New.f k a0) (foghornref04_New.f (k + 1) a0) := by
 intro a0 k
 unfold foghornref04_New.f
 repeat' first
   | (with_reducible exact foghornref02_New.mono _ _)
   | (with_reducible exact foghornref02_Write.mono _ _ _ _)
   | (with_reducible exact LeO.refl _)
   | (with_reducible exact LeO.none _)
   | (with_reducible refine LeO.ite ?_ ?_)
   | (with_reducible refine LeO.bind ?_ (fun _ => ?_))
   | exact foghornref02_New.mono _ _
   | exact foghornref02_Write.mono _ _ _ _
   | exact LeO.none _
   | refine LeO.ite ?_ ?_
   | refine LeO.bind ?_ (fun _ => ?_)
set_option maxHeartbeats 8000000 in
set_option maxRecDepth 100000 in
theorem foghornref04_New.calls (k : Nat) (a0 : Int) (r1 : List ByteArray) (r2 : Int) (r3 : Int) (r4 : Int) (r5 : Bool) (w : World) (h : foghornref04_New.f k a0 = some (r1, r2, r3, r4, r5)) :
  Calls Try.prog 17 #[.int .i64 a0] w fun e w' => ∃ v0_ : Value, e = .returned (.agg #[v0_, .int .i64 r2, .int .i64 r3, .int .i64 r4, .bool r5]) ∧ Kd.R Kd.string 9 w' w.heap.size (fun _ => True) v0_ r1 ∧ Below w.heap.size w w' := by
 have hu26 := Try.underlying26
 have hu24 := Try.underlying24
 have HB := aA (Below.refl w.heap.size w)
 have H : ((foghornref02_New.f k a0).bind fun t235 => ((foghornref03_Seal.f 1 0 (⟨#[]⟩ : ByteArray)).bind fun t238 => ((foghornref02_Write.f k t235 1 t238).bind fun t239 => (some (t239, 1, 0, 1, false))))) = some (r1, r2, r3, r4, r5) := h
 clear h
 replace H := Option.bind_eq_some_iff.mp H
 obtain ⟨t235, A20, H⟩ := H
 replace H : ((foghornref03_Seal.f 1 0 (⟨#[]⟩ : ByteArray)).bind fun t238 => ((foghornref02_Write.f k t235 1 t238).bind fun t239 => (some (t239, 1, 0, 1, false)))) = some (r1, r2, r3, r4, r5) := H
 have A2 := aA A20
 clear A20
 replace H := Option.bind_eq_some_iff.mp H
 obtain ⟨t238, A30, H⟩ := H
 replace H : ((foghornref02_Write.f k t235 1 t238).bind fun t239 => (some (t239, 1, 0, 1, false))) = some (r1, r2, r3, r4, r5) := H
 have A3 := aA A30
 clear A30
 replace H := Option.bind_eq_some_iff.mp H
 obtain ⟨t239, A40, H⟩ := H
 replace H : (some (t239, 1, 0, 1, false)) = some (r1, r2, r3, r4, r5) := H
 have A4 := aA A40
 clear A40
 simp only [Option.some.injEq, Prod.mk.injEq] at H
 obtain ⟨rfl, rfl, rfl, rfl, rfl⟩ := H
 go_enter Try.func17, Try.ntmps17
 go_wp2_with (first | ((with_reducible refine gate_dst (N := 2) rfl ?_); refine box_event ?hg (N := 2) ?hd (cs := #[.slice none 0 0, .int .i64 0, .int .i64 0, .int .i64 0, .bool false]) (t := 26) ?hr ?_; (case hd => rfl); (case hg => rfl); (case hr => first | (go_simp; done) | (go_simp; rfl)); intro gb234 hg w5 hbox hb; have n0_ := aA (below_step mB hb); have n1_ := aA (hbox); have n2_ := aA ((bZ hg mB)); have n3_ := aA ((bZ hg mB)); clear HB; have HB := n0_; have BK234 := n1_; have GW234 := n2_; have GE234 := n3_; clear n0_ n1_ n2_ n3_ hb hbox hg) | ((with_reducible refine gate_callee (f := 41) rfl ?_); refine goesL_ (some 5) rfl rfl Try.func41 (by kernel_rfl) rfl #[.int .i64 a0] rfl mS ?_; (with_reducible refine (foghornref02_New.calls k a0 t235 _ A2.out).mono ?_); rintro e w6 ⟨v236, rfl, ho0, hb⟩; refine ⟨_, rfl, ?_⟩; have n0_ := aA (Kd.R_lower ho0 (below_size (mD1 GE234.out))); have n1_ := aA (bB BK234.out hb); have n2_ := aA (below_step (mD1 GE234.out) hb); clear BK234 HB; have HO237 := n0_; have BK234 := n1_; have HB := n2_; clear n0_ n1_ n2_; (try clear hb); (try clear hb2); (try clear hk); (try clear hi); (try clear ho0)) | ((with_reducible refine gate_callee (f := 42) rfl ?_); refine goesL_ (some 6) rfl rfl Try.func42 (by kernel_rfl) rfl #[.int .i64 1, .int .i64 0, .string (⟨#[]⟩ : ByteArray)] rfl mS ?_; (with_reducible refine (foghornref03_Seal.calls 1 0 (⟨#[]⟩ : ByteArray) t238 _ A3.out).mono ?_); rintro e w7 ⟨rfl, hb⟩; refine ⟨_, rfl, ?_⟩; have n0_ := aA (Kd.R_below (mR HO237.out) hb); have n1_ := aA (bB BK234.out hb); have n2_ := aA (below_step (mD1 GE234.out) hb); clear HO237 BK234 HB; have HO237 := n0_; have BK234 := n1_; have HB := n2_; clear n0_ n1_ n2_; (try clear hb); (try clear hb2); (try clear hk); (try clear hi); obtain ⟨Ao8, co8, eo8⟩ := Kd.R_slice HO237.out; subst eo8) | ((with_reducible refine gate_callee (f := 40) rfl ?_); refine goesL_ (some 7) rfl rfl Try.func40 (by kernel_rfl) rfl #[.agg #[.slice Ao8 t235.length co8], .int .i64 1, .string t238] rfl mS ?_; (with_reducible refine (foghornref02_Write.calls k _ _ t235 1 t238 t239 _ ?side1 ?side2 A4.out).mono ?_); (case side1 => exact mC ((Kd.R_reads' HO237.out).2.2)); (case side2 => exact (Kd.R_reads' HO237.out).2.1); rintro e w9 ⟨v240, rfl, ho0, hb⟩; refine ⟨_, rfl, ?_⟩; have n0_ := aA (Kd.R_elder' (mR HO237.out) (Kd.R_base ho0) hb); have n1_ := aA (Kd.R_lower (Kd.R_new' ho0 (Kd.R_lt (mR HO237.out))) (below_size (mD1 GE234.out))); have n2_ := aA (bB BK234.out hb); have n3_ := aA (below_step (mD1 GE234.out) hb); clear HO237 BK234 HB; have HO237 := n0_; have HO241 := n1_; have BK234 := n2_; have HB := n3_; clear n0_ n1_ n2_ n3_; (try clear hb); (try clear hb2); (try clear hk); (try clear hi); (try clear ho0)) | ((with_reducible refine gate_dst (N := 3) rfl ?_); refine box_event ?hg (N := 3) ?hd (cs := #[.slice none 0 0]) (t := 24) ?hr ?_; (case hd => rfl); (case hg => rfl); (case hr => first | (go_simp; done) | (go_simp; rfl)); intro gb242 hg w10 hbox hb; have n0_ := aA (Kd.R_below (mR HO237.out) hb); have n1_ := aA (Kd.R_below (mR HO241.out) hb); have n2_ := aA (bB BK234.out hb); have n3_ := aA (below_step (mD1 GE234.out) hb); have n4_ := aA (hbox); have n5_ := aA ((bZ hg (mD1 GE234.out))); have n6_ := aA ((bZ hg (mD1 GE234.out))); have n7_ := aA ((bL hg BK234.out)); have n8_ := aA ((bG hg BK234.out)); clear HO237 HO241 BK234 HB; have HO237 := n0_; have HO241 := n1_; have BK234 := n2_; have HB := n3_; have BK242 := n4_; have GW242 := n5_; have GE242 := n6_; have NB234_242 := n7_; have NB242_234 := n8_; clear n0_ n1_ n2_ n3_ n4_ n5_ n6_ n7_ n8_ hb hbox hg; obtain ⟨Ao11, co11, eo11⟩ := Kd.R_slice HO241.out; subst eo11; have hnb12 := NB242_234.out; have hnc12 := NB234_242.out; have hcz13_0 : w10.cell? ⟨gb242, 0, none⟩ = some (.slice none 0 0) := (blk_cell BK242.out 0).trans rfl; have hfz13_0 := blk_frozen BK242.out 0; obtain ⟨hcz14_0, hcz14_1, hcz14_2, hcz14_3, hcz14_4⟩ := bC5 BK234.out; obtain ⟨hfz14_0, hfz14_1, hfz14_2, hfz14_3, hfz14_4⟩ := bF5 BK234.out))
 refine bodyPost_ret (results_cell_row rfl _ _ gb234 26 #[.slice Ao11 t239.length co11, .int .i64 1, .int .i64 0, .int .i64 1, .bool false] (0, 0) _ rfl (by (with_reducible repeat (first | refine blk_drewN ?_ _ | refine blk_drew ?_ | refine blk_alloc ?_ _)); refine blk_put (cs := #[.slice Ao11 t239.length co11, .int .i64 1, .int .i64 0, .int .i64 1, .bool false]) ?_ 4 _ rfl; (with_reducible repeat (first | refine blk_drewN ?_ _ | refine blk_drew ?_ | refine blk_alloc ?_ _)); refine blk_put (cs := #[.slice Ao11 t239.length co11, .int .i64 1, .int .i64 0, .int .i64 0, .bool false]) ?_ 3 _ rfl; (with_reducible repeat (first | refine blk_drewN ?_ _ | refine blk_drew ?_ | refine blk_alloc ?_ _)); refine blk_put (cs := #[.slice Ao11 t239.length co11, .int .i64 1, .int .i64 0, .int .i64 0, .bool false]) ?_ 2 _ rfl; (with_reducible repeat (first | refine blk_drewN ?_ _ | refine blk_drew ?_ | refine blk_alloc ?_ _)); refine blk_put (cs := #[.slice Ao11 t239.length co11, .int .i64 0, .int .i64 0, .int .i64 0, .bool false]) ?_ 1 _ rfl; (with_reducible repeat (first | refine blk_drewN ?_ _ | refine blk_drew ?_ | refine blk_alloc ?_ _)); refine blk_put (cs := #[.slice none 0 0, .int .i64 0, .int .i64 0, .int .i64 0, .bool false]) ?_ 0 _ rfl; (with_reducible repeat (first | refine blk_drewN ?_ _ | refine blk_drew ?_ | refine blk_alloc ?_ _)); refine blk_far ?_ NB234_242.out _; (with_reducible repeat (first | refine blk_drewN ?_ _ | refine blk_drew ?_ | refine blk_alloc ?_ _)); exact BK234.out) Try.underlying26 rfl (by kernel_rfl)) rfl ?_
 exact ⟨_, by first | rfl | (simp [errW_none, errW_some] <;> rfl) | (simp [*, errW_none, errW_some] <;> rfl), by (with_reducible repeat (first | apply Kd.R_alloc | apply Kd.R_drewN | apply Kd.R_drew)); exact Kd.R_mono (rF 4 (rF 3 (rF 2 (rF 1 (rF 0 (Kd.R_far (p := ⟨gb242, 0, none⟩) (Kd.R_types (Kd.R_types HO241.out BK242.out (by decide)) BK234.out (by decide)) (fun _ hk => hk.1.2) (.slice Ao11 t239.length co11))))))) (fun _ hk => trivial), by repeat (first | (with_reducible first | exact HB.out | apply below_alloc | apply pw_below_drewN | apply below_drew1 | refine below_set ?_ GE234.out | refine below_set ?_ GE242.out) | exact HB.out)⟩
end Go.Proofs.YtopaddpclipnjaaQ.P
