/- The statement 'StoreFails': for every input the law returns true, and each argument reads behind the call as it read before. No condition. -/
import Derived.WideShapes
import Derived.Test.YtopaddpclipnjaaRows
import Derived.WalkKit
import Derived.ProofKit
import Derived.OpenShut
import Derived.ShutString
import Derived.Below
import Derived.Carry
import Derived.Test.YtopaddpclipnjaaStoreFailsz1
import Derived.Test.YtopaddpclipnjaaStoreFailsz2
import Derived.Test.YtopaddpclipnjaaStoreFailsz3
set_option linter.unusedVariables false
set_option linter.unusedSimpArgs false
namespace Go.Proofs.YtopaddpclipnjaaQ.P
open Go.RowKit Go.Proofs.YtopaddpclipnjaaW.PrintWords Go.Proofs.YtopaddpclipnjaaW.PrintLast Go.Proofs.YtopaddpclipnjaaW.PrintMore
attribute [local go_sem] max2_int min2_int max_two min_two max_three min_three max_four min_four
def foghornref02_Same.l0 : Nat → Int → Int → List ByteArray → List ByteArray → Option (Bool)
 | 0, _, _, _, _ => none
 | k + 1, x15, x16, x205000, x206000 => if x16 < x15 then (if 0 ≤ x16 then (if x16 < (x205000.length : Int) then (if x16 < (x206000.length : Int) then (if (rdOf ByteArray.empty x205000 x16).toList = (rdOf ByteArray.empty x206000 x16).toList then (foghornref02_Same.l0 k x15 (wrap64 (x16 + 1)) x205000 x206000) else (some false)) else (none)) else (none)) else (none)) else (some true)
def foghornref02_Same.f (k : Nat) (l0_0 : List ByteArray) (l1_0 : List ByteArray) : Option (Bool) := if (l0_0.length : Int) = (l1_0.length : Int) then (foghornref02_Same.l0 k (l0_0.length : Int) 0 l0_0 l1_0) else (some false)
theorem foghornref02_Same.mono_l : ∀ k, (∀ y0 y1 y2 y3, LeO (foghornref02_Same.l0 k y0 y1 y2 y3) (foghornref02_Same.l0 (k + 1) y0 y1 y2 y3))
 | 0 => fun _ _ _ _ r h => by simp [foghornref02_Same.l0] at h
 | k + 1 => by
  have ih0 := foghornref02_Same.mono_l k
  ·intro y0 y1 y2 y3
   unfold foghornref02_Same.l0
   repeat' first
   | (with_reducible exact ih0 _ _ _ _)
   | (with_reducible exact LeO.refl _)
   | (with_reducible exact LeO.none _)
   | (with_reducible refine LeO.ite ?_ ?_)
   | (with_reducible refine LeO.bind ?_ (fun _ => ?_))
   | exact ih0 _ _ _ _
   | exact LeO.none _
   | refine LeO.ite ?_ ?_
   | refine LeO.bind ?_ (fun _ => ?_)
theorem foghornref02_Same.mono : ∀ a0 a1 k, LeO (foghornref02_Same.f k a0 a1) (foghornref02_Same.f (k + 1) a0 a1) := by
 intro a0 a1 k
 have ih0 := foghornref02_Same.mono_l k
 unfold foghornref02_Same.f
 repeat' first
   | (with_reducible exact ih0 _ _ _ _)
   | (with_reducible exact LeO.refl _)
   | (with_reducible exact LeO.none _)
   | (with_reducible refine LeO.ite ?_ ?_)
   | (with_reducible refine LeO.bind ?_ (fun _ => ?_))
   | exact ih0 _ _ _ _
   | exact LeO.none _
   | refine LeO.ite ?_ ?_
   | refine LeO.bind ?_ (fun _ => ?_)
set_option maxHeartbeats 8000000 in
set_option maxRecDepth 100000 in
theorem foghornref02_Same.calls (k : Nat) (A0_0 : Option Addr) (c0_0 : Nat) (l0_0 : List ByteArray) (A1_0 : Option Addr) (c1_0 : Nat) (l1_0 : List ByteArray) (r : Bool) (w : World) (hr0_0 : Kd.C Kd.string w A0_0 l0_0.length l0_0) (hc0_0 : l0_0.length ≤ c0_0) (hr1_0 : Kd.C Kd.string w A1_0 l1_0.length l1_0) (hc1_0 : l1_0.length ≤ c1_0) (h : foghornref02_Same.f k l0_0 l1_0 = some r) :
  Calls Try.prog 31 #[.agg #[.slice A0_0 l0_0.length c0_0], .agg #[.slice A1_0 l1_0.length c1_0]] w fun e w' => e = .returned (.bool r) ∧ Below w.heap.size w w' := by
 have hu24 := Try.underlying24
 have HR0_0 := aA hr0_0
 have HC0_0 := aA hc0_0
 clear hr0_0 hc0_0
 have HR1_0 := aA hr1_0
 have HC1_0 := aA hc1_0
 clear hr1_0 hc1_0
 have HB := aA (Below.refl w.heap.size w)
 have H : (if (l0_0.length : Int) = (l1_0.length : Int) then (foghornref02_Same.l0 k (l0_0.length : Int) 0 l0_0 l1_0) else (some false)) = some r := h
 clear h
 by_cases c3 : (l0_0.length : Int) = (l1_0.length : Int)
 ·rw [if_pos c3] at H
  have c3b0 : ((l0_0.length : Int) == (l1_0.length : Int)) = true := beq_iff_eq.mpr c3
  have c3b1 : ((l0_0.length : Int) != (l1_0.length : Int)) = false := bne_eq_false_iff_eq.mpr c3
  have c3b2 : (l0_0.length == l1_0.length) = true := by first | simpa using c3 | (simp at c3 ⊢; omega)
  clear c3
  have H' := aA H
  clear H
  go_enter Try.func31, Try.ntmps31
  go_wp2_with (first | ((with_reducible refine gate_dst (N := 2) rfl ?_); refine box_event ?hg (N := 2) ?hd (cs := #[.slice A0_0 l0_0.length c0_0]) (t := 24) ?hr ?_; (case hd => rfl); (case hg => rfl); (case hr => first | (go_simp; done) | (go_simp; rfl)); intro gb204 hg w4 hbox hb; have n0_ := aA (below_step mB hb); have n1_ := aA (hbox); have n2_ := aA ((bZ hg mB)); have n3_ := aA ((bZ hg mB)); clear HB; have HB := n0_; have BK204 := n1_; have GW204 := n2_; have GE204 := n3_; clear n0_ n1_ n2_ n3_ hb hbox hg) | ((with_reducible refine gate_dst (N := 3) rfl ?_); refine box_event ?hg (N := 3) ?hd (cs := #[.slice A1_0 l1_0.length c1_0]) (t := 24) ?hr ?_; (case hd => rfl); (case hg => rfl); (case hr => first | (go_simp; done) | (go_simp; rfl)); intro gb205 hg w5 hbox hb; have n0_ := aA (bB BK204.out hb); have n1_ := aA (below_step (mD1 GE204.out) hb); have n2_ := aA (hbox); have n3_ := aA ((bZ hg (mD1 GE204.out))); have n4_ := aA ((bZ hg (mD1 GE204.out))); have n5_ := aA ((bL hg BK204.out)); have n6_ := aA ((bG hg BK204.out)); clear BK204 HB; have BK204 := n0_; have HB := n1_; have BK205 := n2_; have GW205 := n3_; have GE205 := n4_; have NB204_205 := n5_; have NB205_204 := n6_; clear n0_ n1_ n2_ n3_ n4_ n5_ n6_ hb hbox hg; have hnb6 := NB204_205.out; have hnc6 := NB205_204.out; have hcz7_0 : w5.cell? ⟨gb204, 0, none⟩ = some (.slice A0_0 l0_0.length c0_0) := (blk_cell BK204.out 0).trans rfl; have hfz7_0 := blk_frozen BK204.out 0; have hcz8_0 : w5.cell? ⟨gb205, 0, none⟩ = some (.slice A1_0 l1_0.length c1_0) := (blk_cell BK205.out 0).trans rfl; have hfz8_0 := blk_frozen BK205.out 0))
  repeat (go_quiet (first | ((with_reducible refine gate_dst (N := 2) rfl ?_); refine box_event ?hg (N := 2) ?hd (cs := #[.slice A0_0 l0_0.length c0_0]) (t := 24) ?hr ?_; (case hd => rfl); (case hg => rfl); (case hr => first | (go_simp; done) | (go_simp; rfl)); intro gb204 hg w4 hbox hb; have n0_ := aA (below_step mB hb); have n1_ := aA (hbox); have n2_ := aA ((bZ hg mB)); have n3_ := aA ((bZ hg mB)); clear HB; have HB := n0_; have BK204 := n1_; have GW204 := n2_; have GE204 := n3_; clear n0_ n1_ n2_ n3_ hb hbox hg) | ((with_reducible refine gate_dst (N := 3) rfl ?_); refine box_event ?hg (N := 3) ?hd (cs := #[.slice A1_0 l1_0.length c1_0]) (t := 24) ?hr ?_; (case hd => rfl); (case hg => rfl); (case hr => first | (go_simp; done) | (go_simp; rfl)); intro gb205 hg w5 hbox hb; have n0_ := aA (bB BK204.out hb); have n1_ := aA (below_step (mD1 GE204.out) hb); have n2_ := aA (hbox); have n3_ := aA ((bZ hg (mD1 GE204.out))); have n4_ := aA ((bZ hg (mD1 GE204.out))); have n5_ := aA ((bL hg BK204.out)); have n6_ := aA ((bG hg BK204.out)); clear BK204 HB; have BK204 := n0_; have HB := n1_; have BK205 := n2_; have GW205 := n3_; have GE205 := n4_; have NB204_205 := n5_; have NB205_204 := n6_; clear n0_ n1_ n2_ n3_ n4_ n5_ n6_ hb hbox hg; have hnb6 := NB204_205.out; have hnc6 := NB205_204.out; have hcz7_0 : w5.cell? ⟨gb204, 0, none⟩ = some (.slice A0_0 l0_0.length c0_0) := (blk_cell BK204.out 0).trans rfl; have hfz7_0 := blk_frozen BK204.out 0; have hcz8_0 : w5.cell? ⟨gb205, 0, none⟩ = some (.slice A1_0 l1_0.length c1_0) := (blk_cell BK205.out 0).trans rfl; have hfz8_0 := blk_frozen BK205.out 0)); try go_wp2_with (first | ((with_reducible refine gate_dst (N := 2) rfl ?_); refine box_event ?hg (N := 2) ?hd (cs := #[.slice A0_0 l0_0.length c0_0]) (t := 24) ?hr ?_; (case hd => rfl); (case hg => rfl); (case hr => first | (go_simp; done) | (go_simp; rfl)); intro gb204 hg w4 hbox hb; have n0_ := aA (below_step mB hb); have n1_ := aA (hbox); have n2_ := aA ((bZ hg mB)); have n3_ := aA ((bZ hg mB)); clear HB; have HB := n0_; have BK204 := n1_; have GW204 := n2_; have GE204 := n3_; clear n0_ n1_ n2_ n3_ hb hbox hg) | ((with_reducible refine gate_dst (N := 3) rfl ?_); refine box_event ?hg (N := 3) ?hd (cs := #[.slice A1_0 l1_0.length c1_0]) (t := 24) ?hr ?_; (case hd => rfl); (case hg => rfl); (case hr => first | (go_simp; done) | (go_simp; rfl)); intro gb205 hg w5 hbox hb; have n0_ := aA (bB BK204.out hb); have n1_ := aA (below_step (mD1 GE204.out) hb); have n2_ := aA (hbox); have n3_ := aA ((bZ hg (mD1 GE204.out))); have n4_ := aA ((bZ hg (mD1 GE204.out))); have n5_ := aA ((bL hg BK204.out)); have n6_ := aA ((bG hg BK204.out)); clear BK204 HB; have BK204 := n0_; have HB := n1_; have BK205 := n2_; have GW205 := n3_; have GE205 := n4_; have NB204_205 := n5_; have NB205_204 := n6_; clear n0_ n1_ n2_ n3_ n4_ n5_ n6_ hb hbox hg; have hnb6 := NB204_205.out; have hnc6 := NB205_204.out; have hcz7_0 : w5.cell? ⟨gb204, 0, none⟩ = some (.slice A0_0 l0_0.length c0_0) := (blk_cell BK204.out 0).trans rfl; have hfz7_0 := blk_frozen BK204.out 0; have hcz8_0 : w5.cell? ⟨gb205, 0, none⟩ = some (.slice A1_0 l1_0.length c1_0) := (blk_cell BK205.out 0).trans rfl; have hfz8_0 := blk_frozen BK205.out 0)))
  go_loopg [16] k (fun kq v16 w' => ∃ (x16_1 : Int), v16 = .int .i64 x16_1 ∧ Aside0 (foghornref02_Same.l0 kq (l0_0.length : Int) x16_1 l0_0 l1_0 = some r) ∧ Aside0 (kq ≤ k) ∧ Aside0 (w'.heap[gb204]? = some (.cells #[(.slice A0_0 l0_0.length c0_0)] 24 (0, 0))) ∧ Aside0 (w'.heap[gb205]? = some (.cells #[(.slice A1_0 l1_0.length c1_0)] 24 (0, 0))) ∧ Aside0 (Below w.heap.size w w'))
  case atStart => exact ⟨(0), (by first | rfl | (simp; done) | (simp [*]; done)), H', ⟨Nat.le_refl _⟩, ⟨by (with_reducible repeat (first | refine blk_drewN ?_ _ | refine blk_drew ?_ | refine blk_alloc ?_ _)); exact BK204.out⟩, ⟨by (with_reducible repeat (first | refine blk_drewN ?_ _ | refine blk_drew ?_ | refine blk_alloc ?_ _)); exact BK205.out⟩, ⟨by repeat (first | (with_reducible first | exact HB.out | apply below_alloc | apply pw_below_drewN | apply below_drew1 | refine below_set ?_ GE204.out | refine below_set ?_ GE205.out) | exact HB.out)⟩⟩
  case round =>
   clear H'
   try clear c1
   try clear p2
   try clear c3
   try clear c3b0
   try clear c3b1
   try clear c3b2
   try clear c6
   try clear hcz7_0
   try clear hcz8_0
   try clear hfz7_0
   try clear hfz8_0
   obtain ⟨x16_1, rfl, HA, HK1, BK204, BK205, HB⟩ := hrel
   cases gk with
   | zero => exact absurd HA.out (by simp [foghornref02_Same.l0])
   | succ k1 =>
    have H := HA.out
    clear HA
    simp only [foghornref02_Same.l0] at H
    by_cases c9 : x16_1 < (l0_0.length : Int)
    ·rw [if_pos c9] at H
     have c9b0 : decide (x16_1 < (l0_0.length : Int)) = true := decide_eq_true c9
     clear c9
     by_cases c10 : 0 ≤ x16_1
     ·rw [if_pos c10] at H
      have c10b0 : decide (0 ≤ x16_1) = true := decide_eq_true c10
      clear c10
      by_cases c11 : x16_1 < (l0_0.length : Int)
      ·rw [if_pos c11] at H
       have c11b0 : decide (x16_1 < (l0_0.length : Int)) = true := decide_eq_true c11
       clear c11
       by_cases c12 : x16_1 < (l1_0.length : Int)
       ·rw [if_pos c12] at H
        have c12b0 : decide (x16_1 < (l1_0.length : Int)) = true := decide_eq_true c12
        clear c12
        by_cases c13 : (rdOf ByteArray.empty l0_0 x16_1).toList = (rdOf ByteArray.empty l1_0 x16_1).toList
        ·rw [if_pos c13] at H
         have c13b0 : ((rdOf ByteArray.empty l0_0 x16_1).toList == (rdOf ByteArray.empty l1_0 x16_1).toList) = true := beq_iff_eq.mpr c13
         have c13b1 : ((rdOf ByteArray.empty l0_0 x16_1).toList != (rdOf ByteArray.empty l1_0 x16_1).toList) = false := bne_eq_false_iff_eq.mpr c13
         clear c13
         have H' := aA H
         clear H
         have hnb14 := NB204_205.out
         have hnc14 := NB205_204.out
         have hcz15_0 : wr.cell? ⟨gb204, 0, none⟩ = some (.slice A0_0 l0_0.length c0_0) := (blk_cell BK204.out 0).trans rfl
         have hfz15_0 := blk_frozen BK204.out 0
         have p206 : 0 ≤ (x16_1 : Int) := of_decide_eq_true (by first | (with_reducible assumption) | assumption)
         have q206 : x16_1 < (l0_0.length : Int) := of_decide_eq_true (by first | (with_reducible assumption) | assumption)
         obtain ⟨ad206, e206, hx206_0⟩ := Kd.at_string HR0_0.out x16_1 p206 q206
         cases e206
         replace hx206_0 := (HB.out.cell (World.block_lt_of_cell? w _ hx206_0)).trans hx206_0
         replace p206 := eq_true p206
         replace q206 := eq_true q206
         have hcz16_0 : wr.cell? ⟨gb205, 0, none⟩ = some (.slice A1_0 l1_0.length c1_0) := (blk_cell BK205.out 0).trans rfl
         have hfz16_0 := blk_frozen BK205.out 0
         have p207 : 0 ≤ (x16_1 : Int) := of_decide_eq_true (by first | (with_reducible assumption) | assumption)
         have q207 : x16_1 < (l1_0.length : Int) := of_decide_eq_true (by first | (with_reducible assumption) | assumption)
         obtain ⟨ad207, e207, hx207_0⟩ := Kd.at_string HR1_0.out x16_1 p207 q207
         cases e207
         replace hx207_0 := (HB.out.cell (World.block_lt_of_cell? w _ hx207_0)).trans hx207_0
         replace p207 := eq_true p207
         replace q207 := eq_true q207
         go_wp2
         repeat (go_quiet (fail); try go_wp2)
         go_roundg k1
         case measure => have := HK1.out; omega
         case rel => exact ⟨(wrap64 (x16_1 + 1)), (by first | rfl | (simp; done) | (simp [*]; done)), H', ⟨by have := HK1.out; omega⟩, ⟨by (with_reducible repeat (first | refine blk_drewN ?_ _ | refine blk_drew ?_ | refine blk_alloc ?_ _)); exact BK204.out⟩, ⟨by (with_reducible repeat (first | refine blk_drewN ?_ _ | refine blk_drew ?_ | refine blk_alloc ?_ _)); exact BK205.out⟩, ⟨by repeat (first | (with_reducible first | exact HB.out | apply below_alloc | apply pw_below_drewN | apply below_drew1 | refine below_set ?_ GE204.out | refine below_set ?_ GE205.out) | exact HB.out)⟩⟩
        ·rw [if_neg c13] at H
         have c13b0 : ((rdOf ByteArray.empty l0_0 x16_1).toList == (rdOf ByteArray.empty l1_0 x16_1).toList) = false := beq_eq_false_iff_ne.mpr c13
         have c13b1 : ((rdOf ByteArray.empty l0_0 x16_1).toList != (rdOf ByteArray.empty l1_0 x16_1).toList) = true := bne_iff_ne.mpr c13
         obtain rfl := Option.some.inj H
         have hnb17 := NB204_205.out
         have hnc17 := NB205_204.out
         have hcz18_0 : wr.cell? ⟨gb204, 0, none⟩ = some (.slice A0_0 l0_0.length c0_0) := (blk_cell BK204.out 0).trans rfl
         have hfz18_0 := blk_frozen BK204.out 0
         have p206 : 0 ≤ (x16_1 : Int) := of_decide_eq_true (by first | (with_reducible assumption) | assumption)
         have q206 : x16_1 < (l0_0.length : Int) := of_decide_eq_true (by first | (with_reducible assumption) | assumption)
         obtain ⟨ad206, e206, hx206_0⟩ := Kd.at_string HR0_0.out x16_1 p206 q206
         cases e206
         replace hx206_0 := (HB.out.cell (World.block_lt_of_cell? w _ hx206_0)).trans hx206_0
         replace p206 := eq_true p206
         replace q206 := eq_true q206
         have hcz19_0 : wr.cell? ⟨gb205, 0, none⟩ = some (.slice A1_0 l1_0.length c1_0) := (blk_cell BK205.out 0).trans rfl
         have hfz19_0 := blk_frozen BK205.out 0
         have p207 : 0 ≤ (x16_1 : Int) := of_decide_eq_true (by first | (with_reducible assumption) | assumption)
         have q207 : x16_1 < (l1_0.length : Int) := of_decide_eq_true (by first | (with_reducible assumption) | assumption)
         obtain ⟨ad207, e207, hx207_0⟩ := Kd.at_string HR1_0.out x16_1 p207 q207
         cases e207
         replace hx207_0 := (HB.out.cell (World.block_lt_of_cell? w _ hx207_0)).trans hx207_0
         replace p207 := eq_true p207
         replace q207 := eq_true q207
         go_wp2
         repeat (go_quiet (fail); try go_wp2)
         go_ret
         exact ⟨by first | rfl | (simp [errW_none, errW_some] <;> rfl) | (simp [*, errW_none, errW_some] <;> rfl), by repeat (first | (with_reducible first | exact HB.out | apply below_alloc | apply pw_below_drewN | apply below_drew1 | refine below_set ?_ GE204.out | refine below_set ?_ GE205.out) | exact HB.out)⟩
       ·rw [if_neg c12] at H
        exact absurd H (by simp)
      ·rw [if_neg c11] at H
       exact absurd H (by simp)
     ·rw [if_neg c10] at H
      exact absurd H (by simp)
    ·rw [if_neg c9] at H
     have c9b0 : decide (x16_1 < (l0_0.length : Int)) = false := decide_eq_false c9
     clear c9
     obtain rfl := Option.some.inj H
     go_wp2
     repeat (go_quiet (fail); try go_wp2)
     go_ret
     exact ⟨by first | rfl | (simp [errW_none, errW_some] <;> rfl) | (simp [*, errW_none, errW_some] <;> rfl), by repeat (first | (with_reducible first | exact HB.out | apply below_alloc | apply pw_below_drewN | apply below_drew1 | refine below_set ?_ GE204.out | refine below_set ?_ GE205.out) | exact HB.out)⟩
 ·rw [if_neg c3] at H
  have c3b0 : ((l0_0.length : Int) == (l1_0.length : Int)) = false := beq_eq_false_iff_ne.mpr c3
  have c3b1 : ((l0_0.length : Int) != (l1_0.length : Int)) = true := bne_iff_ne.mpr c3
  have c3b2 : (l0_0.length == l1_0.length) = false := by first | simpa using c3 | (simp at c3 ⊢; omega)
  obtain rfl := Option.some.inj H
  go_enter Try.func31, Try.ntmps31
  go_wp2_with (first | ((with_reducible refine gate_dst (N := 2) rfl ?_); refine box_event ?hg (N := 2) ?hd (cs := #[.slice A0_0 l0_0.length c0_0]) (t := 24) ?hr ?_; (case hd => rfl); (case hg => rfl); (case hr => first | (go_simp; done) | (go_simp; rfl)); intro gb204 hg w20 hbox hb; have n0_ := aA (below_step mB hb); have n1_ := aA (hbox); have n2_ := aA ((bZ hg mB)); have n3_ := aA ((bZ hg mB)); clear HB; have HB := n0_; have BK204 := n1_; have GW204 := n2_; have GE204 := n3_; clear n0_ n1_ n2_ n3_ hb hbox hg) | ((with_reducible refine gate_dst (N := 3) rfl ?_); refine box_event ?hg (N := 3) ?hd (cs := #[.slice A1_0 l1_0.length c1_0]) (t := 24) ?hr ?_; (case hd => rfl); (case hg => rfl); (case hr => first | (go_simp; done) | (go_simp; rfl)); intro gb205 hg w21 hbox hb; have n0_ := aA (bB BK204.out hb); have n1_ := aA (below_step (mD1 GE204.out) hb); have n2_ := aA (hbox); have n3_ := aA ((bZ hg (mD1 GE204.out))); have n4_ := aA ((bZ hg (mD1 GE204.out))); have n5_ := aA ((bL hg BK204.out)); have n6_ := aA ((bG hg BK204.out)); clear BK204 HB; have BK204 := n0_; have HB := n1_; have BK205 := n2_; have GW205 := n3_; have GE205 := n4_; have NB204_205 := n5_; have NB205_204 := n6_; clear n0_ n1_ n2_ n3_ n4_ n5_ n6_ hb hbox hg; have hnb22 := NB204_205.out; have hnc22 := NB205_204.out; have hcz23_0 : w21.cell? ⟨gb204, 0, none⟩ = some (.slice A0_0 l0_0.length c0_0) := (blk_cell BK204.out 0).trans rfl; have hfz23_0 := blk_frozen BK204.out 0; have hcz24_0 : w21.cell? ⟨gb205, 0, none⟩ = some (.slice A1_0 l1_0.length c1_0) := (blk_cell BK205.out 0).trans rfl; have hfz24_0 := blk_frozen BK205.out 0))
  repeat (go_quiet (first | ((with_reducible refine gate_dst (N := 2) rfl ?_); refine box_event ?hg (N := 2) ?hd (cs := #[.slice A0_0 l0_0.length c0_0]) (t := 24) ?hr ?_; (case hd => rfl); (case hg => rfl); (case hr => first | (go_simp; done) | (go_simp; rfl)); intro gb204 hg w20 hbox hb; have n0_ := aA (below_step mB hb); have n1_ := aA (hbox); have n2_ := aA ((bZ hg mB)); have n3_ := aA ((bZ hg mB)); clear HB; have HB := n0_; have BK204 := n1_; have GW204 := n2_; have GE204 := n3_; clear n0_ n1_ n2_ n3_ hb hbox hg) | ((with_reducible refine gate_dst (N := 3) rfl ?_); refine box_event ?hg (N := 3) ?hd (cs := #[.slice A1_0 l1_0.length c1_0]) (t := 24) ?hr ?_; (case hd => rfl); (case hg => rfl); (case hr => first | (go_simp; done) | (go_simp; rfl)); intro gb205 hg w21 hbox hb; have n0_ := aA (bB BK204.out hb); have n1_ := aA (below_step (mD1 GE204.out) hb); have n2_ := aA (hbox); have n3_ := aA ((bZ hg (mD1 GE204.out))); have n4_ := aA ((bZ hg (mD1 GE204.out))); have n5_ := aA ((bL hg BK204.out)); have n6_ := aA ((bG hg BK204.out)); clear BK204 HB; have BK204 := n0_; have HB := n1_; have BK205 := n2_; have GW205 := n3_; have GE205 := n4_; have NB204_205 := n5_; have NB205_204 := n6_; clear n0_ n1_ n2_ n3_ n4_ n5_ n6_ hb hbox hg; have hnb22 := NB204_205.out; have hnc22 := NB205_204.out; have hcz23_0 : w21.cell? ⟨gb204, 0, none⟩ = some (.slice A0_0 l0_0.length c0_0) := (blk_cell BK204.out 0).trans rfl; have hfz23_0 := blk_frozen BK204.out 0; have hcz24_0 : w21.cell? ⟨gb205, 0, none⟩ = some (.slice A1_0 l1_0.length c1_0) := (blk_cell BK205.out 0).trans rfl; have hfz24_0 := blk_frozen BK205.out 0)); try go_wp2_with (first | ((with_reducible refine gate_dst (N := 2) rfl ?_); refine box_event ?hg (N := 2) ?hd (cs := #[.slice A0_0 l0_0.length c0_0]) (t := 24) ?hr ?_; (case hd => rfl); (case hg => rfl); (case hr => first | (go_simp; done) | (go_simp; rfl)); intro gb204 hg w20 hbox hb; have n0_ := aA (below_step mB hb); have n1_ := aA (hbox); have n2_ := aA ((bZ hg mB)); have n3_ := aA ((bZ hg mB)); clear HB; have HB := n0_; have BK204 := n1_; have GW204 := n2_; have GE204 := n3_; clear n0_ n1_ n2_ n3_ hb hbox hg) | ((with_reducible refine gate_dst (N := 3) rfl ?_); refine box_event ?hg (N := 3) ?hd (cs := #[.slice A1_0 l1_0.length c1_0]) (t := 24) ?hr ?_; (case hd => rfl); (case hg => rfl); (case hr => first | (go_simp; done) | (go_simp; rfl)); intro gb205 hg w21 hbox hb; have n0_ := aA (bB BK204.out hb); have n1_ := aA (below_step (mD1 GE204.out) hb); have n2_ := aA (hbox); have n3_ := aA ((bZ hg (mD1 GE204.out))); have n4_ := aA ((bZ hg (mD1 GE204.out))); have n5_ := aA ((bL hg BK204.out)); have n6_ := aA ((bG hg BK204.out)); clear BK204 HB; have BK204 := n0_; have HB := n1_; have BK205 := n2_; have GW205 := n3_; have GE205 := n4_; have NB204_205 := n5_; have NB205_204 := n6_; clear n0_ n1_ n2_ n3_ n4_ n5_ n6_ hb hbox hg; have hnb22 := NB204_205.out; have hnc22 := NB205_204.out; have hcz23_0 : w21.cell? ⟨gb204, 0, none⟩ = some (.slice A0_0 l0_0.length c0_0) := (blk_cell BK204.out 0).trans rfl; have hfz23_0 := blk_frozen BK204.out 0; have hcz24_0 : w21.cell? ⟨gb205, 0, none⟩ = some (.slice A1_0 l1_0.length c1_0) := (blk_cell BK205.out 0).trans rfl; have hfz24_0 := blk_frozen BK205.out 0)))
  go_ret
  exact ⟨by first | rfl | (simp [errW_none, errW_some] <;> rfl) | (simp [*, errW_none, errW_some] <;> rfl), by repeat (first | (with_reducible first | exact HB.out | apply below_alloc | apply pw_below_drewN | apply below_drew1 | refine below_set ?_ GE204.out | refine below_set ?_ GE205.out) | exact HB.out)⟩
end Go.Proofs.YtopaddpclipnjaaQ.P
namespace Go.Proofs.YtopaddpclipnjaaQ.P
open Go.RowKit Go.Proofs.YtopaddpclipnjaaW.PrintWords Go.Proofs.YtopaddpclipnjaaW.PrintLast Go.Proofs.YtopaddpclipnjaaW.PrintMore
attribute [local go_sem] max2_int min2_int max_two min_two max_three min_three max_four min_four
def foghornref04_Same.f (k : Nat) (l0_0 : List ByteArray) (a0_1 : Int) (a0_2 : Int) (a0_3 : Int) (a0_4 : Bool) (l1_0 : List ByteArray) (a1_1 : Int) (a1_2 : Int) (a1_3 : Int) (a1_4 : Bool) : Option (Bool) := (foghornref02_Same.f k l0_0 l1_0).bind fun t210 => (if t210 = true then (if a0_1 = a1_1 then (if a0_2 = a1_2 then (if a0_3 = a1_3 then (some (a0_4 == a1_4)) else (some false)) else (some false)) else (some false)) else (some false))
theorem foghornref04_Same.mono : ∀ a0 a1 a2 a3 a4 a5 a6 a7 a8 a9 k, LeO (foghornref04_Same.f k a0 a1 a2 a3 a4 a5 a6 a7 a8 a9) (foghornref04_Same.f (k + 1) a0 a1 a2 a3 a4 a5 a6 a7 a8 a9) := by
 intro a0 a1 a2 a3 a4 a5 a6 a7 a8 a9 k
 unfold foghornref04_Same.f
 repeat' first
   | (with_reducible exact foghornref02_Same.mono _ _ _)
   | (with_reducible exact LeO.refl _)
   | (with_reducible exact LeO.none _)
   | (with_reducible refine LeO.ite ?_ ?_)
   | (with_reducible refine LeO.bind ?_ (fun _ => ?_))
   | exact foghornref02_Same.mono _ _ _
   | exact LeO.none _
   | refine LeO.ite ?_ ?_
   | refine LeO.bind ?_ (fun _ => ?_)
set_option maxHeartbeats 8000000 in
set_option maxRecDepth 100000 in
theorem foghornref04_Same.calls (k : Nat) (A0_0 : Option Addr) (c0_0 : Nat) (l0_0 : List ByteArray) (a0_1 : Int) (a0_2 : Int) (a0_3 : Int) (a0_4 : Bool) (A1_0 : Option Addr) (c1_0 : Nat) (l1_0 : List ByteArray) (a1_1 : Int) (a1_2 : Int) (a1_3 : Int) (a1_4 : Bool) (r : Bool) (w : World) (hr0_0 : Kd.C Kd.string w A0_0 l0_0.length l0_0) (hc0_0 : l0_0.length ≤ c0_0) (hr1_0 : Kd.C Kd.string w A1_0 l1_0.length l1_0) (hc1_0 : l1_0.length ≤ c1_0) (h : foghornref04_Same.f k l0_0 a0_1 a0_2 a0_3 a0_4 l1_0 a1_1 a1_2 a1_3 a1_4 = some r) :
  Calls Try.prog 16 #[.agg #[.slice A0_0 l0_0.length c0_0, .int .i64 a0_1, .int .i64 a0_2, .int .i64 a0_3, .bool a0_4], .agg #[.slice A1_0 l1_0.length c1_0, .int .i64 a1_1, .int .i64 a1_2, .int .i64 a1_3, .bool a1_4]] w fun e w' => e = .returned (.bool r) ∧ Below w.heap.size w w' := by
 have hu26 := Try.underlying26
 have hu24 := Try.underlying24
 have HR0_0 := aA hr0_0
 have HC0_0 := aA hc0_0
 clear hr0_0 hc0_0
 have HR1_0 := aA hr1_0
 have HC1_0 := aA hc1_0
 clear hr1_0 hc1_0
 have HB := aA (Below.refl w.heap.size w)
 have H : ((foghornref02_Same.f k l0_0 l1_0).bind fun t210 => (if t210 = true then (if a0_1 = a1_1 then (if a0_2 = a1_2 then (if a0_3 = a1_3 then (some (a0_4 == a1_4)) else (some false)) else (some false)) else (some false)) else (some false))) = some r := h
 clear h
 replace H := Option.bind_eq_some_iff.mp H
 obtain ⟨t210, A30, H⟩ := H
 have A3 := aA A30
 clear A30
 by_cases c4 : t210 = true
 ·subst c4
  have H1 : (if a0_1 = a1_1 then (if a0_2 = a1_2 then (if a0_3 = a1_3 then (some (a0_4 == a1_4)) else (some false)) else (some false)) else (some false)) = some r := by rw [if_pos rfl] at H; exact H
  clear H
  have H := H1
  clear H1
  by_cases c5 : a0_1 = a1_1
  ·rw [if_pos c5] at H
   have c5b0 : (a0_1 == a1_1) = true := beq_iff_eq.mpr c5
   have c5b1 : (a0_1 != a1_1) = false := bne_eq_false_iff_eq.mpr c5
   clear c5
   by_cases c6 : a0_2 = a1_2
   ·rw [if_pos c6] at H
    have c6b0 : (a0_2 == a1_2) = true := beq_iff_eq.mpr c6
    have c6b1 : (a0_2 != a1_2) = false := bne_eq_false_iff_eq.mpr c6
    clear c6
    by_cases c7 : a0_3 = a1_3
    ·rw [if_pos c7] at H
     have c7b0 : (a0_3 == a1_3) = true := beq_iff_eq.mpr c7
     have c7b1 : (a0_3 != a1_3) = false := bne_eq_false_iff_eq.mpr c7
     clear c7
     obtain rfl := Option.some.inj H
     go_enter Try.func16, Try.ntmps16
     go_wp2_with (first | ((with_reducible refine gate_dst (N := 2) rfl ?_); refine box_event ?hg (N := 2) ?hd (cs := #[.slice A0_0 l0_0.length c0_0, .int .i64 a0_1, .int .i64 a0_2, .int .i64 a0_3, .bool a0_4]) (t := 26) ?hr ?_; (case hd => rfl); (case hg => rfl); (case hr => first | (go_simp; done) | (go_simp; rfl)); intro gb208 hg w8 hbox hb; have n0_ := aA (below_step mB hb); have n1_ := aA (hbox); have n2_ := aA ((bZ hg mB)); have n3_ := aA ((bZ hg mB)); clear HB; have HB := n0_; have BK208 := n1_; have GW208 := n2_; have GE208 := n3_; clear n0_ n1_ n2_ n3_ hb hbox hg) | ((with_reducible refine gate_dst (N := 3) rfl ?_); refine box_event ?hg (N := 3) ?hd (cs := #[.slice A1_0 l1_0.length c1_0, .int .i64 a1_1, .int .i64 a1_2, .int .i64 a1_3, .bool a1_4]) (t := 26) ?hr ?_; (case hd => rfl); (case hg => rfl); (case hr => first | (go_simp; done) | (go_simp; rfl)); intro gb209 hg w9 hbox hb; have n0_ := aA (bB BK208.out hb); have n1_ := aA (below_step (mD1 GE208.out) hb); have n2_ := aA (hbox); have n3_ := aA ((bZ hg (mD1 GE208.out))); have n4_ := aA ((bZ hg (mD1 GE208.out))); have n5_ := aA ((bL hg BK208.out)); have n6_ := aA ((bG hg BK208.out)); clear BK208 HB; have BK208 := n0_; have HB := n1_; have BK209 := n2_; have GW209 := n3_; have GE209 := n4_; have NB208_209 := n5_; have NB209_208 := n6_; clear n0_ n1_ n2_ n3_ n4_ n5_ n6_ hb hbox hg; have hnb10 := NB208_209.out; have hnc10 := NB209_208.out; obtain ⟨hcz11_0, hcz11_1, hcz11_2, hcz11_3, hcz11_4⟩ := bC5 BK208.out; obtain ⟨hfz11_0, hfz11_1, hfz11_2, hfz11_3, hfz11_4⟩ := bF5 BK208.out; obtain ⟨hcz12_0, hcz12_1, hcz12_2, hcz12_3, hcz12_4⟩ := bC5 BK209.out; obtain ⟨hfz12_0, hfz12_1, hfz12_2, hfz12_3, hfz12_4⟩ := bF5 BK209.out) | ((with_reducible refine gate_callee (f := 31) rfl ?_); refine goesL_ (some 9) rfl rfl Try.func31 (by kernel_rfl) rfl #[.agg #[.slice A0_0 l0_0.length c0_0], .agg #[.slice A1_0 l1_0.length c1_0]] rfl mS ?_; (with_reducible refine (foghornref02_Same.calls k _ _ l0_0 _ _ l1_0 true _ ?side1 ?side2 ?side3 ?side4 A3.out).mono ?_); (case side1 => exact mC ((Kd.C_below HR0_0.out HB.out))); (case side2 => exact HC0_0.out); (case side3 => exact mC ((Kd.C_below HR1_0.out HB.out))); (case side4 => exact HC1_0.out); rintro e w13 ⟨rfl, hb⟩; refine ⟨_, rfl, ?_⟩; have n0_ := aA (bB BK208.out hb); have n1_ := aA (bB BK209.out hb); have n2_ := aA (below_step (mD2 GE208.out GE209.out) hb); clear BK208 BK209 HB; have BK208 := n0_; have BK209 := n1_; have HB := n2_; clear n0_ n1_ n2_; (try clear hb); (try clear hb2); (try clear hk); (try clear hi); obtain ⟨hcz14_0, hcz14_1, hcz14_2, hcz14_3, hcz14_4⟩ := bC5 BK208.out; obtain ⟨hfz14_0, hfz14_1, hfz14_2, hfz14_3, hfz14_4⟩ := bF5 BK208.out; obtain ⟨hcz15_0, hcz15_1, hcz15_2, hcz15_3, hcz15_4⟩ := bC5 BK209.out; obtain ⟨hfz15_0, hfz15_1, hfz15_2, hfz15_3, hfz15_4⟩ := bF5 BK209.out))
     go_ret
     exact ⟨by first | rfl | (simp [errW_none, errW_some] <;> rfl) | (simp [*, errW_none, errW_some] <;> rfl), by repeat (first | (with_reducible first | exact HB.out | apply below_alloc | apply pw_below_drewN | apply below_drew1 | refine below_set ?_ GE208.out | refine below_set ?_ GE209.out) | exact HB.out)⟩
    ·rw [if_neg c7] at H
     have c7b0 : (a0_3 == a1_3) = false := beq_eq_false_iff_ne.mpr c7
     have c7b1 : (a0_3 != a1_3) = true := bne_iff_ne.mpr c7
     obtain rfl := Option.some.inj H
     go_enter Try.func16, Try.ntmps16
     go_wp2_with (first | ((with_reducible refine gate_dst (N := 2) rfl ?_); refine box_event ?hg (N := 2) ?hd (cs := #[.slice A0_0 l0_0.length c0_0, .int .i64 a0_1, .int .i64 a0_2, .int .i64 a0_3, .bool a0_4]) (t := 26) ?hr ?_; (case hd => rfl); (case hg => rfl); (case hr => first | (go_simp; done) | (go_simp; rfl)); intro gb208 hg w16 hbox hb; have n0_ := aA (below_step mB hb); have n1_ := aA (hbox); have n2_ := aA ((bZ hg mB)); have n3_ := aA ((bZ hg mB)); clear HB; have HB := n0_; have BK208 := n1_; have GW208 := n2_; have GE208 := n3_; clear n0_ n1_ n2_ n3_ hb hbox hg) | ((with_reducible refine gate_dst (N := 3) rfl ?_); refine box_event ?hg (N := 3) ?hd (cs := #[.slice A1_0 l1_0.length c1_0, .int .i64 a1_1, .int .i64 a1_2, .int .i64 a1_3, .bool a1_4]) (t := 26) ?hr ?_; (case hd => rfl); (case hg => rfl); (case hr => first | (go_simp; done) | (go_simp; rfl)); intro gb209 hg w17 hbox hb; have n0_ := aA (bB BK208.out hb); have n1_ := aA (below_step (mD1 GE208.out) hb); have n2_ := aA (hbox); have n3_ := aA ((bZ hg (mD1 GE208.out))); have n4_ := aA ((bZ hg (mD1 GE208.out))); have n5_ := aA ((bL hg BK208.out)); have n6_ := aA ((bG hg BK208.out)); clear BK208 HB; have BK208 := n0_; have HB := n1_; have BK209 := n2_; have GW209 := n3_; have GE209 := n4_; have NB208_209 := n5_; have NB209_208 := n6_; clear n0_ n1_ n2_ n3_ n4_ n5_ n6_ hb hbox hg; have hnb18 := NB208_209.out; have hnc18 := NB209_208.out; obtain ⟨hcz19_0, hcz19_1, hcz19_2, hcz19_3, hcz19_4⟩ := bC5 BK208.out; obtain ⟨hfz19_0, hfz19_1, hfz19_2, hfz19_3, hfz19_4⟩ := bF5 BK208.out; obtain ⟨hcz20_0, hcz20_1, hcz20_2, hcz20_3, hcz20_4⟩ := bC5 BK209.out; obtain ⟨hfz20_0, hfz20_1, hfz20_2, hfz20_3, hfz20_4⟩ := bF5 BK209.out) | ((with_reducible refine gate_callee (f := 31) rfl ?_); refine goesL_ (some 9) rfl rfl Try.func31 (by kernel_rfl) rfl #[.agg #[.slice A0_0 l0_0.length c0_0], .agg #[.slice A1_0 l1_0.length c1_0]] rfl mS ?_; (with_reducible refine (foghornref02_Same.calls k _ _ l0_0 _ _ l1_0 true _ ?side1 ?side2 ?side3 ?side4 A3.out).mono ?_); (case side1 => exact mC ((Kd.C_below HR0_0.out HB.out))); (case side2 => exact HC0_0.out); (case side3 => exact mC ((Kd.C_below HR1_0.out HB.out))); (case side4 => exact HC1_0.out); rintro e w21 ⟨rfl, hb⟩; refine ⟨_, rfl, ?_⟩; have n0_ := aA (bB BK208.out hb); have n1_ := aA (bB BK209.out hb); have n2_ := aA (below_step (mD2 GE208.out GE209.out) hb); clear BK208 BK209 HB; have BK208 := n0_; have BK209 := n1_; have HB := n2_; clear n0_ n1_ n2_; (try clear hb); (try clear hb2); (try clear hk); (try clear hi); obtain ⟨hcz22_0, hcz22_1, hcz22_2, hcz22_3, hcz22_4⟩ := bC5 BK208.out; obtain ⟨hfz22_0, hfz22_1, hfz22_2, hfz22_3, hfz22_4⟩ := bF5 BK208.out; obtain ⟨hcz23_0, hcz23_1, hcz23_2, hcz23_3, hcz23_4⟩ := bC5 BK209.out; obtain ⟨hfz23_0, hfz23_1, hfz23_2, hfz23_3, hfz23_4⟩ := bF5 BK209.out))
     go_ret
     exact ⟨by first | rfl | (simp [errW_none, errW_some] <;> rfl) | (simp [*, errW_none, errW_some] <;> rfl), by repeat (first | (with_reducible first | exact HB.out | apply below_alloc | apply pw_below_drewN | apply below_drew1 | refine below_set ?_ GE208.out | refine below_set ?_ GE209.out) | exact HB.out)⟩
   ·rw [if_neg c6] at H
    have c6b0 : (a0_2 == a1_2) = false := beq_eq_false_iff_ne.mpr c6
    have c6b1 : (a0_2 != a1_2) = true := bne_iff_ne.mpr c6
    obtain rfl := Option.some.inj H
    go_enter Try.func16, Try.ntmps16
    go_wp2_with (first | ((with_reducible refine gate_dst (N := 2) rfl ?_); refine box_event ?hg (N := 2) ?hd (cs := #[.slice A0_0 l0_0.length c0_0, .int .i64 a0_1, .int .i64 a0_2, .int .i64 a0_3, .bool a0_4]) (t := 26) ?hr ?_; (case hd => rfl); (case hg => rfl); (case hr => first | (go_simp; done) | (go_simp; rfl)); intro gb208 hg w24 hbox hb; have n0_ := aA (below_step mB hb); have n1_ := aA (hbox); have n2_ := aA ((bZ hg mB)); have n3_ := aA ((bZ hg mB)); clear HB; have HB := n0_; have BK208 := n1_; have GW208 := n2_; have GE208 := n3_; clear n0_ n1_ n2_ n3_ hb hbox hg) | ((with_reducible refine gate_dst (N := 3) rfl ?_); refine box_event ?hg (N := 3) ?hd (cs := #[.slice A1_0 l1_0.length c1_0, .int .i64 a1_1, .int .i64 a1_2, .int .i64 a1_3, .bool a1_4]) (t := 26) ?hr ?_; (case hd => rfl); (case hg => rfl); (case hr => first | (go_simp; done) | (go_simp; rfl)); intro gb209 hg w25 hbox hb; have n0_ := aA (bB BK208.out hb); have n1_ := aA (below_step (mD1 GE208.out) hb); have n2_ := aA (hbox); have n3_ := aA ((bZ hg (mD1 GE208.out))); have n4_ := aA ((bZ hg (mD1 GE208.out))); have n5_ := aA ((bL hg BK208.out)); have n6_ := aA ((bG hg BK208.out)); clear BK208 HB; have BK208 := n0_; have HB := n1_; have BK209 := n2_; have GW209 := n3_; have GE209 := n4_; have NB208_209 := n5_; have NB209_208 := n6_; clear n0_ n1_ n2_ n3_ n4_ n5_ n6_ hb hbox hg; have hnb26 := NB208_209.out; have hnc26 := NB209_208.out; obtain ⟨hcz27_0, hcz27_1, hcz27_2, hcz27_3, hcz27_4⟩ := bC5 BK208.out; obtain ⟨hfz27_0, hfz27_1, hfz27_2, hfz27_3, hfz27_4⟩ := bF5 BK208.out; obtain ⟨hcz28_0, hcz28_1, hcz28_2, hcz28_3, hcz28_4⟩ := bC5 BK209.out; obtain ⟨hfz28_0, hfz28_1, hfz28_2, hfz28_3, hfz28_4⟩ := bF5 BK209.out) | ((with_reducible refine gate_callee (f := 31) rfl ?_); refine goesL_ (some 9) rfl rfl Try.func31 (by kernel_rfl) rfl #[.agg #[.slice A0_0 l0_0.length c0_0], .agg #[.slice A1_0 l1_0.length c1_0]] rfl mS ?_; (with_reducible refine (foghornref02_Same.calls k _ _ l0_0 _ _ l1_0 true _ ?side1 ?side2 ?side3 ?side4 A3.out).mono ?_); (case side1 => exact mC ((Kd.C_below HR0_0.out HB.out))); (case side2 => exact HC0_0.out); (case side3 => exact mC ((Kd.C_below HR1_0.out HB.out))); (case side4 => exact HC1_0.out); rintro e w29 ⟨rfl, hb⟩; refine ⟨_, rfl, ?_⟩; have n0_ := aA (bB BK208.out hb); have n1_ := aA (bB BK209.out hb); have n2_ := aA (below_step (mD2 GE208.out GE209.out) hb); clear BK208 BK209 HB; have BK208 := n0_; have BK209 := n1_; have HB := n2_; clear n0_ n1_ n2_; (try clear hb); (try clear hb2); (try clear hk); (try clear hi); obtain ⟨hcz30_0, hcz30_1, hcz30_2, hcz30_3, hcz30_4⟩ := bC5 BK208.out; obtain ⟨hfz30_0, hfz30_1, hfz30_2, hfz30_3, hfz30_4⟩ := bF5 BK208.out; obtain ⟨hcz31_0, hcz31_1, hcz31_2, hcz31_3, hcz31_4⟩ := bC5 BK209.out; obtain ⟨hfz31_0, hfz31_1, hfz31_2, hfz31_3, hfz31_4⟩ := bF5 BK209.out))
    go_ret
    exact ⟨by first | rfl | (simp [errW_none, errW_some] <;> rfl) | (simp [*, errW_none, errW_some] <;> rfl), by repeat (first | (with_reducible first | exact HB.out | apply below_alloc | apply pw_below_drewN | apply below_drew1 | refine below_set ?_ GE208.out | refine below_set ?_ GE209.out) | exact HB.out)⟩
  ·rw [if_neg c5] at H
   have c5b0 : (a0_1 == a1_1) = false := beq_eq_false_iff_ne.mpr c5
   have c5b1 : (a0_1 != a1_1) = true := bne_iff_ne.mpr c5
   obtain rfl := Option.some.inj H
   go_enter Try.func16, Try.ntmps16
   go_wp2_with (first | ((with_reducible refine gate_dst (N := 2) rfl ?_); refine box_event ?hg (N := 2) ?hd (cs := #[.slice A0_0 l0_0.length c0_0, .int .i64 a0_1, .int .i64 a0_2, .int .i64 a0_3, .bool a0_4]) (t := 26) ?hr ?_; (case hd => rfl); (case hg => rfl); (case hr => first | (go_simp; done) | (go_simp; rfl)); intro gb208 hg w32 hbox hb; have n0_ := aA (below_step mB hb); have n1_ := aA (hbox); have n2_ := aA ((bZ hg mB)); have n3_ := aA ((bZ hg mB)); clear HB; have HB := n0_; have BK208 := n1_; have GW208 := n2_; have GE208 := n3_; clear n0_ n1_ n2_ n3_ hb hbox hg) | ((with_reducible refine gate_dst (N := 3) rfl ?_); refine box_event ?hg (N := 3) ?hd (cs := #[.slice A1_0 l1_0.length c1_0, .int .i64 a1_1, .int .i64 a1_2, .int .i64 a1_3, .bool a1_4]) (t := 26) ?hr ?_; (case hd => rfl); (case hg => rfl); (case hr => first | (go_simp; done) | (go_simp; rfl)); intro gb209 hg w33 hbox hb; have n0_ := aA (bB BK208.out hb); have n1_ := aA (below_step (mD1 GE208.out) hb); have n2_ := aA (hbox); have n3_ := aA ((bZ hg (mD1 GE208.out))); have n4_ := aA ((bZ hg (mD1 GE208.out))); have n5_ := aA ((bL hg BK208.out)); have n6_ := aA ((bG hg BK208.out)); clear BK208 HB; have BK208 := n0_; have HB := n1_; have BK209 := n2_; have GW209 := n3_; have GE209 := n4_; have NB208_209 := n5_; have NB209_208 := n6_; clear n0_ n1_ n2_ n3_ n4_ n5_ n6_ hb hbox hg; have hnb34 := NB208_209.out; have hnc34 := NB209_208.out; obtain ⟨hcz35_0, hcz35_1, hcz35_2, hcz35_3, hcz35_4⟩ := bC5 BK208.out; obtain ⟨hfz35_0, hfz35_1, hfz35_2, hfz35_3, hfz35_4⟩ := bF5 BK208.out; obtain ⟨hcz36_0, hcz36_1, hcz36_2, hcz36_3, hcz36_4⟩ := bC5 BK209.out; obtain ⟨hfz36_0, hfz36_1, hfz36_2, hfz36_3, hfz36_4⟩ := bF5 BK209.out) | ((with_reducible refine gate_callee (f := 31) rfl ?_); refine goesL_ (some 9) rfl rfl Try.func31 (by kernel_rfl) rfl #[.agg #[.slice A0_0 l0_0.length c0_0], .agg #[.slice A1_0 l1_0.length c1_0]] rfl mS ?_; (with_reducible refine (foghornref02_Same.calls k _ _ l0_0 _ _ l1_0 true _ ?side1 ?side2 ?side3 ?side4 A3.out).mono ?_); (case side1 => exact mC ((Kd.C_below HR0_0.out HB.out))); (case side2 => exact HC0_0.out); (case side3 => exact mC ((Kd.C_below HR1_0.out HB.out))); (case side4 => exact HC1_0.out); rintro e w37 ⟨rfl, hb⟩; refine ⟨_, rfl, ?_⟩; have n0_ := aA (bB BK208.out hb); have n1_ := aA (bB BK209.out hb); have n2_ := aA (below_step (mD2 GE208.out GE209.out) hb); clear BK208 BK209 HB; have BK208 := n0_; have BK209 := n1_; have HB := n2_; clear n0_ n1_ n2_; (try clear hb); (try clear hb2); (try clear hk); (try clear hi); obtain ⟨hcz38_0, hcz38_1, hcz38_2, hcz38_3, hcz38_4⟩ := bC5 BK208.out; obtain ⟨hfz38_0, hfz38_1, hfz38_2, hfz38_3, hfz38_4⟩ := bF5 BK208.out; obtain ⟨hcz39_0, hcz39_1, hcz39_2, hcz39_3, hcz39_4⟩ := bC5 BK209.out; obtain ⟨hfz39_0, hfz39_1, hfz39_2, hfz39_3, hfz39_4⟩ := bF5 BK209.out))
   go_ret
   exact ⟨by first | rfl | (simp [errW_none, errW_some] <;> rfl) | (simp [*, errW_none, errW_some] <;> rfl), by repeat (first | (with_reducible first | exact HB.out | apply below_alloc | apply pw_below_drewN | apply below_drew1 | refine below_set ?_ GE208.out | refine below_set ?_ GE209.out) | exact HB.out)⟩
 ·replace c4 := Bool.eq_false_iff.mpr c4
  subst c4
  have H1 : (some false) = some r := by rw [if_neg (show ¬ (false = true) by decide)] at H; exact H
  clear H
  have H := H1
  clear H1
  obtain rfl := Option.some.inj H
  go_enter Try.func16, Try.ntmps16
  go_wp2_with (first | ((with_reducible refine gate_dst (N := 2) rfl ?_); refine box_event ?hg (N := 2) ?hd (cs := #[.slice A0_0 l0_0.length c0_0, .int .i64 a0_1, .int .i64 a0_2, .int .i64 a0_3, .bool a0_4]) (t := 26) ?hr ?_; (case hd => rfl); (case hg => rfl); (case hr => first | (go_simp; done) | (go_simp; rfl)); intro gb208 hg w40 hbox hb; have n0_ := aA (below_step mB hb); have n1_ := aA (hbox); have n2_ := aA ((bZ hg mB)); have n3_ := aA ((bZ hg mB)); clear HB; have HB := n0_; have BK208 := n1_; have GW208 := n2_; have GE208 := n3_; clear n0_ n1_ n2_ n3_ hb hbox hg) | ((with_reducible refine gate_dst (N := 3) rfl ?_); refine box_event ?hg (N := 3) ?hd (cs := #[.slice A1_0 l1_0.length c1_0, .int .i64 a1_1, .int .i64 a1_2, .int .i64 a1_3, .bool a1_4]) (t := 26) ?hr ?_; (case hd => rfl); (case hg => rfl); (case hr => first | (go_simp; done) | (go_simp; rfl)); intro gb209 hg w41 hbox hb; have n0_ := aA (bB BK208.out hb); have n1_ := aA (below_step (mD1 GE208.out) hb); have n2_ := aA (hbox); have n3_ := aA ((bZ hg (mD1 GE208.out))); have n4_ := aA ((bZ hg (mD1 GE208.out))); have n5_ := aA ((bL hg BK208.out)); have n6_ := aA ((bG hg BK208.out)); clear BK208 HB; have BK208 := n0_; have HB := n1_; have BK209 := n2_; have GW209 := n3_; have GE209 := n4_; have NB208_209 := n5_; have NB209_208 := n6_; clear n0_ n1_ n2_ n3_ n4_ n5_ n6_ hb hbox hg; have hnb42 := NB208_209.out; have hnc42 := NB209_208.out; obtain ⟨hcz43_0, hcz43_1, hcz43_2, hcz43_3, hcz43_4⟩ := bC5 BK208.out; obtain ⟨hfz43_0, hfz43_1, hfz43_2, hfz43_3, hfz43_4⟩ := bF5 BK208.out; obtain ⟨hcz44_0, hcz44_1, hcz44_2, hcz44_3, hcz44_4⟩ := bC5 BK209.out; obtain ⟨hfz44_0, hfz44_1, hfz44_2, hfz44_3, hfz44_4⟩ := bF5 BK209.out) | ((with_reducible refine gate_callee (f := 31) rfl ?_); refine goesL_ (some 9) rfl rfl Try.func31 (by kernel_rfl) rfl #[.agg #[.slice A0_0 l0_0.length c0_0], .agg #[.slice A1_0 l1_0.length c1_0]] rfl mS ?_; (with_reducible refine (foghornref02_Same.calls k _ _ l0_0 _ _ l1_0 false _ ?side1 ?side2 ?side3 ?side4 A3.out).mono ?_); (case side1 => exact mC ((Kd.C_below HR0_0.out HB.out))); (case side2 => exact HC0_0.out); (case side3 => exact mC ((Kd.C_below HR1_0.out HB.out))); (case side4 => exact HC1_0.out); rintro e w45 ⟨rfl, hb⟩; refine ⟨_, rfl, ?_⟩; have n0_ := aA (bB BK208.out hb); have n1_ := aA (bB BK209.out hb); have n2_ := aA (below_step (mD2 GE208.out GE209.out) hb); clear BK208 BK209 HB; have BK208 := n0_; have BK209 := n1_; have HB := n2_; clear n0_ n1_ n2_; (try clear hb); (try clear hb2); (try clear hk); (try clear hi)))
  go_ret
  exact ⟨by first | rfl | (simp [errW_none, errW_some] <;> rfl) | (simp [*, errW_none, errW_some] <;> rfl), by repeat (first | (with_reducible first | exact HB.out | apply below_alloc | apply pw_below_drewN | apply below_drew1 | refine below_set ?_ GE208.out | refine below_set ?_ GE209.out) | exact HB.out)⟩
end Go.Proofs.YtopaddpclipnjaaQ.P
namespace Go.Proofs.YtopaddpclipnjaaQ.P
open Go.RowKit Go.Proofs.YtopaddpclipnjaaW.PrintWords Go.Proofs.YtopaddpclipnjaaW.PrintLast Go.Proofs.YtopaddpclipnjaaW.PrintMore
attribute [local go_sem] max2_int min2_int max_two min_two max_three min_three max_four min_four
def foghornref04_Texts.l0 : Nat → List ByteArray → List ByteArray → Int → Int → Option (Bool)
 | 0, _, _, _, _ => none
 | k + 1, x0, x1, x12, x13 => if x13 < x12 then (if 0 ≤ x13 then (if x13 < (x0.length : Int) then (if x13 < (x1.length : Int) then (if (rdOf ByteArray.empty x0 x13).toList = (rdOf ByteArray.empty x1 x13).toList then (foghornref04_Texts.l0 k x0 x1 x12 (wrap64 (x13 + 1))) else (some false)) else (none)) else (none)) else (none)) else (some true)
def foghornref04_Texts.f (k : Nat) (l0 : List ByteArray) (l1 : List ByteArray) : Option (Bool) := if (l0.length : Int) = (l1.length : Int) then (foghornref04_Texts.l0 k l0 l1 (l0.length : Int) 0) else (some false)
theorem foghornref04_Texts.mono_l : ∀ k, (∀ y0 y1 y2 y3, LeO (foghornref04_Texts.l0 k y0 y1 y2 y3) (foghornref04_Texts.l0 (k + 1) y0 y1 y2 y3))
 | 0 => fun _ _ _ _ r h => by simp [foghornref04_Texts.l0] at h
 | k + 1 => by
  have ih0 := foghornref04_Texts.mono_l k
  ·intro y0 y1 y2 y3
   unfold foghornref04_Texts.l0
   repeat' first
   | (with_reducible exact ih0 _ _ _ _)
   | (with_reducible exact LeO.refl _)
   | (with_reducible exact LeO.none _)
   | (with_reducible refine LeO.ite ?_ ?_)
   | (with_reducible refine LeO.bind ?_ (fun _ => ?_))
   | exact ih0 _ _ _ _
   | exact LeO.none _
   | refine LeO.ite ?_ ?_
   | refine LeO.bind ?_ (fun _ => ?_)
theorem foghornref04_Texts.mono : ∀ a0 a1 k, LeO (foghornref04_Texts.f k a0 a1) (foghornref04_Texts.f (k + 1) a0 a1) := by
 intro a0 a1 k
 have ih0 := foghornref04_Texts.mono_l k
 unfold foghornref04_Texts.f
 repeat' first
   | (with_reducible exact ih0 _ _ _ _)
   | (with_reducible exact LeO.refl _)
   | (with_reducible exact LeO.none _)
   | (with_reducible refine LeO.ite ?_ ?_)
   | (with_reducible refine LeO.bind ?_ (fun _ => ?_))
   | exact ih0 _ _ _ _
   | exact LeO.none _
   | refine LeO.ite ?_ ?_
   | refine LeO.bind ?_ (fun _ => ?_)
end Go.Proofs.YtopaddpclipnjaaQ.P
namespace Go.Proofs.Ytopaddpclipnjaa
open Go.RowKit Go.Proofs.YtopaddpclipnjaaW.PrintWords Go.Proofs.YtopaddpclipnjaaW.PrintMore
theorem w64 {x : Int} (h0 : -9223372036854775808 ≤ x) (h1 : x ≤ 9223372036854775807) : wrap64 x = x := by unfold wrap64; omega
theorem w64s {i : Nat} (h : i < 9223372036854775807) : wrap64 ((i : Int) + 1) = ((i + 1 : Nat) : Int) := by rw [w64 (by omega) (by omega)]; omega
theorem drop_cons {α : Type} {xs : List α} {i : Nat} (h : i < xs.length) : xs.drop i = xs[i] :: xs.drop (i + 1) := List.drop_eq_getElem_cons h
theorem drop_end {α : Type} {xs : List α} {i : Nat} (h : xs.length ≤ i) : xs.drop i = [] := List.drop_eq_nil_of_le h
theorem mn_eq (a b : Int) : mn a b = min a b := by unfold mn; omega
theorem mx_eq (a b : Int) : mx a b = max a b := by unfold mx; omega
def cutB (n : Nat) (x : ByteArray) : ByteArray := x.extract 0 n
theorem cutB_size (n : Nat) (x : ByteArray) : (cutB n x).size = min n x.size := by
  unfold cutB
  rw [ByteArray.size_extract]
  omega
theorem cutB_mn (n : Nat) (m : Int) (x : ByteArray) (hm : m = n) : x.extract 0 (mn (x.size : Int) m).toNat = cutB n x := by
  subst hm
  unfold cutB
  rw [mn_eq]
  apply ByteArray.ext
  rw [ByteArray.data_extract, ByteArray.data_extract]
  rcases Nat.le_total x.size n with h | h
  · rw [show (min (x.size : Int) n).toNat = x.size by omega]
    rw [Array.extract_eq_self_of_le (show x.data.size ≤ x.size from Nat.le_refl _), Array.extract_eq_self_of_le (show x.data.size ≤ n from h)]
  · rw [show (min (x.size : Int) n).toNat = n by omega]
theorem take_mn {α : Type} (n : Nat) (m : Int) (xs : List α) (hm : m = n) : xs.take (mn (xs.length : Int) m).toNat = xs.take n := by
  subst hm
  rw [mn_eq]
  rcases Nat.le_total xs.length n with h | h
  · rw [List.take_of_length_le (by omega), List.take_of_length_le h]
  · rw [show (min (xs.length : Int) n).toNat = n by omega]
end Go.Proofs.Ytopaddpclipnjaa
namespace Go.Proofs.YtopaddpclipnjaaQ.P
open Go.RowKit Go.Proofs.YtopaddpclipnjaaW.PrintWords Go.Proofs.YtopaddpclipnjaaW.PrintMore Go.Proofs.Ytopaddpclipnjaa
theorem rd_sec (xs : List ByteArray) (i : Int) : rdOf ByteArray.empty xs i = sec xs i := rfl
theorem rd_at {xs : List ByteArray} {i : Nat} (h : i < xs.length) : rdOf ByteArray.empty xs i = xs[i] := sec_get h
theorem bytes_list' {a b : ByteArray} : a.toList = b.toList ↔ a = b := ⟨fun h => bytes_of_eq (by rw [h]; exact beq_self_eq_true _), fun h => by rw [h]⟩
theorem dsame_l (xs ys : List ByteArray) (hl : xs.length = ys.length) (hb : xs.length < 1000000) (d : Nat) : ∀ (k i : Nat), i + d = xs.length → d < k →
    foghornref02_Same.l0 k (xs.length : Int) i xs ys = some (decide (xs.drop i = ys.drop i)) := by
  induction d with
  | zero =>
    intro k i h hk
    obtain ⟨k, rfl⟩ : ∃ m, k = m + 1 := ⟨k - 1, by omega⟩
    simp only [foghornref02_Same.l0]
    rw [if_neg (by omega), drop_end (by omega), drop_end (by omega)]
    simp
  | succ d ih =>
    intro k i h hk
    obtain ⟨k, rfl⟩ : ∃ m, k = m + 1 := ⟨k - 1, by omega⟩
    have hi : i < xs.length := by omega
    have hj : i < ys.length := by omega
    simp only [foghornref02_Same.l0]
    rw [if_pos (by omega), if_pos (by omega), if_pos (by omega), if_pos (by omega), rd_at hi, rd_at hj, w64s (by omega), ih k (i + 1) (by omega) (by omega), drop_cons hi, drop_cons hj]
    by_cases h1 : xs[i] = ys[i]
    · rw [if_pos (by rw [h1])]
      simp only [List.cons.injEq, h1, true_and]
    · rw [if_neg (fun h => h1 (bytes_list'.1 h))]
      simp only [List.cons.injEq, h1, false_and, decide_false]
theorem dsame_f (xs ys : List ByteArray) (hb : xs.length < 1000000) {k : Nat} (hk : xs.length < k) : foghornref02_Same.f k xs ys = some (decide (xs = ys)) := by
  unfold foghornref02_Same.f
  by_cases h : xs.length = ys.length
  · rw [if_pos (by omega), show (0 : Int) = ((0 : Nat) : Int) from rfl, dsame_l xs ys h hb xs.length k 0 (by omega) (by omega)]
    simp
  · rw [if_neg (by omega)]
    have : xs ≠ ys := fun e => h (by rw [e])
    simp [this]
def stoEq (s t : Sto) : Bool := decide (s.xs = t.xs) && decide (s.gen = t.gen) && decide (s.used = t.used) && decide (s.top = t.top) && (s.down == t.down)
theorem stoEq_self (s : Sto) : stoEq s s = true := by unfold stoEq; simp
theorem ssame_f (s t : Sto) (hb : s.xs.length < 1000000) {k : Nat} (hk : s.xs.length < k) : foghornref04_Same.f k s.xs s.gen s.used s.top s.down t.xs t.gen t.used t.top t.down = some (stoEq s t) := by
  unfold foghornref04_Same.f stoEq
  rw [dsame_f s.xs t.xs hb hk]
  simp only [Option.bind_some]
  by_cases h1 : s.xs = t.xs <;> by_cases h2 : s.gen = t.gen <;> by_cases h3 : s.used = t.used <;> by_cases h4 : s.top = t.top <;> simp [h1, h2, h3, h4]
theorem few_l (xs : List ByteArray) (hx : xs.length ≤ 1000) (d : Nat) : ∀ (k i : Nat) (acc : List ByteArray), i + d = xs.length → d < k → acc.length ≤ i → foghornlaw04_few.l0 k acc xs (xs.length : Int) i = some (acc ++ (xs.drop i).map (cutB 130)) := by
  induction d with
  | zero =>
    intro k i acc h hk ha
    obtain ⟨k, rfl⟩ : ∃ m, k = m + 1 := ⟨k - 1, by omega⟩
    simp only [foghornlaw04_few.l0]
    rw [if_neg (by omega), drop_end (by omega)]
    simp
  | succ d ih =>
    intro k i acc h hk ha
    obtain ⟨k, rfl⟩ : ∃ m, k = m + 1 := ⟨k - 1, by omega⟩
    have hi : i < xs.length := by omega
    simp only [foghornlaw04_few.l0]
    have e1 := mn_eq ((xs[i]).size : Int) 130
    rw [rd_at hi, if_pos (by omega), if_pos (by omega), if_pos (by omega), if_pos (by omega), if_pos (by omega), if_pos (by omega), w64s (by omega), ih k (i + 1) _ (by omega) (by omega) (by simp; omega), drop_cons hi, cutB_mn 130 130 _ rfl]
    simp only [List.map_cons, List.append_assoc, List.singleton_append]
theorem few_f (xs : List ByteArray) (n : Nat) (hn : n ≤ 1000) {k : Nat} (hk : n < k) : foghornlaw04_few.f k xs (n : Int) = some ((xs.take n).map (cutB 130)) := by
  unfold foghornlaw04_few.f
  have e1 := mn_eq (xs.length : Int) n
  rw [if_pos (by omega), if_pos (by omega), take_mn n n _ rfl]
  have hl : (xs.take n).length ≤ n := List.length_take_le _ _
  have := few_l (xs.take n) (by omega) (xs.take n).length k 0 [] (by omega) (by omega) (by simp)
  simpa using this
def cutD (xs : List ByteArray) : List ByteArray := (xs.take 132).map (cutB 130)
theorem cutD_len (xs : List ByteArray) : (cutD xs).length ≤ 132 := by
  unfold cutD
  rw [List.length_map]
  exact List.length_take_le _ _
theorem few132 (xs : List ByteArray) {k : Nat} (hk : 132 < k) : foghornlaw04_few.f k xs 132 = some (cutD xs) := few_f xs 132 (by omega) hk
theorem cut_f (s : Sto) {k : Nat} (hk : 132 < k) : foghornlaw04_cut.f k s.xs s.gen s.used s.top s.down = some (cutD s.xs, s.gen, s.used, s.top, s.down) := by
  unfold foghornlaw04_cut.f
  rw [few132 _ hk]
  rfl
end Go.Proofs.YtopaddpclipnjaaQ.P
namespace Go.Proofs.YtopaddpclipnjaaQ.P
open Go.RowKit Go.Proofs.YtopaddpclipnjaaW.PrintWords Go.Proofs.YtopaddpclipnjaaW.PrintMore Go.Proofs.Ytopaddpclipnjaa
theorem area_f {xs : List ByteArray} (hl : xs.length ≤ 1000000) : store_area.f xs = some (areaD xs) := by
  unfold store_area.f areaD
  congr 1
  unfold wrap64
  omega
theorem tmod2 {g : Int} (h : 0 ≤ g) : Int.tmod g 2 = g % 2 := Int.tmod_eq_emod_of_nonneg h
theorem place_f {xs : List ByteArray} (hl : xs.length ≤ 1000) {g i : Int} (g0 : 0 ≤ g) (i0 : 0 ≤ i) (i1 : i ≤ 1000) : store_place.f xs g i = some (placeD xs g i) := by
  unfold store_place.f placeD
  rw [area_f (by omega), Option.bind_some, tmod2 g0]
  congr 1
  have ha : -1 ≤ areaD xs ∧ areaD xs ≤ 500 := by unfold areaD; omega
  obtain ⟨A, hA⟩ : ∃ A, A = areaD xs := ⟨_, rfl⟩
  rw [← hA] at ha ⊢
  rcases (by omega : g % 2 = 0 ∨ g % 2 = 1) with e | e <;> rw [e] <;> unfold wrap64 <;> omega
theorem open_f {x : ByteArray} (h : x.size = 128) : openF x = some (openG x, openN x, openP x, openE x) := by
  unfold openF
  rw [if_pos (by unfold maxLen; omega)]
theorem sopen_f {x : ByteArray} (h : x.size = 128) : seal_Open.f x = some (openG x, openN x, openP x, openE x) := open_f h
theorem boot_l1 {xs : List ByteArray} (hlog : logB xs = true) {G T : Int} (g0 : 0 ≤ G) (d : Nat) : ∀ (k i : Nat) (acc : List ByteArray), (i : Int) + d = areaD xs → d < k → acc.length ≤ i →
    store_Boot.l1 k acc xs xs G i T false = some (xs, G, ((i + (foundD xs G d i).length : Nat) : Int), T, false, acc ++ foundD xs G d i, 0) := by
  obtain ⟨n1, n2, _, hsz, _, _, hlen, a1, a2⟩ := logB_nums hlog
  induction d with
  | zero =>
    intro k i acc h hk ha
    obtain ⟨k, rfl⟩ : ∃ m, k = m + 1 := ⟨k - 1, by omega⟩
    simp only [store_Boot.l1]
    rw [area_f (by omega), Option.bind_some, if_neg (by omega)]
    simp [foundD]
  | succ d ih =>
    intro k i acc h hk ha
    obtain ⟨k, rfl⟩ : ∃ m, k = m + 1 := ⟨k - 1, by omega⟩
    have hp := placeD_in hlog (g := G) (i := i) (by omega) (by omega)
    simp only [store_Boot.l1]
    rw [area_f (by omega), Option.bind_some, if_pos (by omega), place_f (by omega) g0 (by omega) (by omega), Option.bind_some, if_pos (by omega), if_pos (by omega), rd_sec, sopen_f (sec_size hlog (by omega) (by omega)), Option.bind_some, w64s (by omega)]
    simp only
    unfold foundD
    by_cases h1 : openE (sec xs (placeD xs G i)) = 0
    · by_cases h2 : openG (sec xs (placeD xs G i)) = G
      · by_cases h3 : openN (sec xs (placeD xs G i)) = ((i + 1 : Nat) : Int)
        · rw [if_pos h1, if_pos h2, if_pos h3, if_pos (by omega), ih k (i + 1) _ (by omega) (by omega) (by simp; omega), if_pos ⟨h1, h2, by rw [h3]; omega⟩]
          simp only [List.append_assoc, List.singleton_append, List.length_cons, Option.some.injEq, Prod.mk.injEq, true_and, and_true]
          omega
        · rw [if_pos h1, if_pos h2, if_neg h3, if_neg (fun h => h3 (by rw [h.2.2]; omega))]
          simp
      · rw [if_pos h1, if_neg h2, if_neg (fun h => h2 h.2.1)]
        simp
    · rw [if_neg h1, if_neg (fun h => h1 h.1)]
      simp
def genFrom (i : Nat) (m : Int) : List ByteArray → Int
  | [] => m
  | x :: xs => genFrom (i + 1) (if i < 2 then max m (hdrG x i) else m) xs
theorem genFrom_late (xs : List ByteArray) : ∀ i m, 2 ≤ i → genFrom i m xs = m := by
  induction xs with
  | nil => intro i m _; rfl
  | cons x xs ih =>
    intro i m h
    unfold genFrom
    rw [if_neg (by omega)]
    exact ih _ _ (by omega)
theorem genFrom_all {xs : List ByteArray} (h : 2 ≤ xs.length) : genFrom 0 0 xs = newestD xs := by
  match xs, h with
  | x :: y :: xs, _ =>
    unfold genFrom genFrom
    rw [genFrom_late xs _ _ (by omega)]
    unfold newestD sec
    have := (hdrG_range x 0).1
    simp
    omega
theorem nil_list : (⟨#[]⟩ : ByteArray).toList = ([] : List UInt8) := by
  rw [ByteArray.toList_eq]
theorem hdr_step {x : ByteArray} {i : Nat} {m : Int} (hi : i < 2) (hm : 0 ≤ m) {α : Type} (f : Int → α) :
    (if openE x = 0 then (if (i : Int) = openG x % 2 then (if openN x = 0 then (if (openP x).toList = ([] : List UInt8) then f (max m (openG x)) else f m) else f m) else f m) else f m) = f (max m (hdrG x i)) := by
  unfold hdrG
  by_cases h1 : openE x = 0
  · by_cases h2 : (i : Int) = openG x % 2
    · by_cases h3 : openN x = 0
      · by_cases h4 : openP x = ⟨#[]⟩
        · rw [if_pos h1, if_pos h2, if_pos h3, if_pos (by rw [h4]; exact nil_list), if_pos ⟨h1, h2.symm, h3, h4⟩]
        · rw [if_pos h1, if_pos h2, if_pos h3, if_neg (fun h => h4 (bytes_list'.1 (h.trans nil_list.symm))), if_neg (fun h => h4 h.2.2.2), Int.max_eq_left hm]
      · rw [if_pos h1, if_pos h2, if_neg h3, if_neg (fun h => h3 h.2.2.1), Int.max_eq_left hm]
    · rw [if_pos h1, if_neg h2, if_neg (fun h => h2 h.2.1.symm), Int.max_eq_left hm]
  · rw [if_neg h1, if_neg (fun h => h1 h.1), Int.max_eq_left hm]
theorem bt_at8 {x : ByteArray} (h : x.size = 128) : wrap64 (bt x 0) = at8 x 0 := by
  have hr := at8_range x 0
  have : bt x 0 = at8 x 0 := by
    unfold bt at8
    rw [dif_pos (show (0 : Int).toNat < x.size by rw [h]; decide), List.getD_eq_getElem?_getD, List.getElem?_eq_getElem (by rw [len_data, h]; omega)]
    rfl
  rw [this]
  unfold wrap64
  omega
theorem boot_l0 {xs : List ByteArray} (hlog : logB xs = true) (d : Nat) : ∀ (k i : Nat) (m t : Int), i + d = xs.length → d + 70 < k → 0 ≤ m →
    store_Boot.l0 k xs (xs.length : Int) i xs xs m 0 t false = (if genFrom i m (xs.drop i) = 0 then some ([], 0, 0, 0, false, [], 4) else some (xs, genFrom i m (xs.drop i), ((foundA xs (genFrom i m (xs.drop i))).length : Int), topF t (xs.drop i), false, foundA xs (genFrom i m (xs.drop i)), 0)) := by
  obtain ⟨n1, n2, _, hsz, _, _, hlen, a1, a2⟩ := logB_nums hlog
  induction d with
  | zero =>
    intro k i m t h hk hm
    obtain ⟨k, rfl⟩ : ∃ m, k = m + 1 := ⟨k - 1, by omega⟩
    simp only [store_Boot.l0]
    rw [if_neg (by omega), drop_end (by omega)]
    unfold genFrom topF
    simp only [List.foldl_nil]
    by_cases h0 : m = 0
    · rw [if_pos h0, if_pos h0]
    · rw [if_neg h0, if_neg h0, show (0 : Int) = ((0 : Nat) : Int) from rfl, boot_l1 hlog hm (areaD xs).toNat k 0 [] (by omega) (by omega) (by simp)]
      simp [foundA]
  | succ d ih =>
    intro k i m t h hk hm
    obtain ⟨k, rfl⟩ : ∃ m, k = m + 1 := ⟨k - 1, by omega⟩
    have hi : i < xs.length := by omega
    have hs : (sec xs i).size = 128 := sec_size hlog (by omega) (by omega)
    simp only [store_Boot.l0]
    rw [if_pos (by omega), if_pos (by omega), if_pos (by omega), rd_sec, if_pos (by rw [hs]; decide), sopen_f hs, Option.bind_some, Option.bind_some, w64s (by omega), bt_at8 hs]
    simp only
    rw [tmod2 (openG_range _).1]
    simp only [mx_eq]
    have hd : xs.drop i = sec xs i :: xs.drop (i + 1) := by rw [sec_get hi]; exact drop_cons hi
    have hg : genFrom i m (xs.drop i) = genFrom (i + 1) (if i < 2 then max m (hdrG (sec xs i) i) else m) (xs.drop (i + 1)) := by rw [hd]; rfl
    have ht : topF t (xs.drop i) = topF (topStep t (sec xs i)) (xs.drop (i + 1)) := by rw [hd]; rfl
    rw [hg, ht]
    have hmn : 0 ≤ (if i < 2 then max m (hdrG (sec xs i) i) else m) := by split <;> omega
    rw [← ih k (i + 1) _ _ (by omega) (by omega) hmn]
    by_cases h2 : i < 2
    · have e := fun (T : Int) => hdr_step (x := sec xs i) h2 hm (fun M => store_Boot.l0 k xs (xs.length : Int) ((i + 1 : Nat) : Int) xs xs M 0 T false)
      rw [if_pos h2, ← e]
      have c2 : (i : Int) < 2 := by omega
      unfold topStep
      by_cases hb : at8 (sec xs i) 0 ≤ 250
      · rw [if_pos hb, if_pos hb, if_pos c2]
      · rw [if_neg hb, if_neg hb, if_pos c2]
    · rw [if_neg h2]
      have c2 : ¬ (i : Int) < 2 := by omega
      unfold topStep
      by_cases hb : at8 (sec xs i) 0 ≤ 250
      · rw [if_pos hb, if_pos hb, if_neg c2]
        split <;> rfl
      · rw [if_neg hb, if_neg hb, if_neg c2]
        split <;> rfl
def bootOut (r : Sto × List ByteArray × Int) : List ByteArray × Int × Int × Int × Bool × List ByteArray × Int := (r.1.xs, r.1.gen, r.1.used, r.1.top, r.1.down, r.2.1, r.2.2)
theorem log_f {xs : List ByteArray} (hl : xs.length ≤ 1000000) : store_hasLog.f xs = some (logB xs) := by
  unfold store_hasLog.f sector_Right.f logB
  cases rightD xs
  · rfl
  · rw [Option.bind_some, if_pos rfl, Bool.true_and]
    congr 1
theorem boot_f (xs : List ByteArray) (hl : xs.length ≤ 1000000) {k : Nat} (hk : 210 < k) : store_Boot.f k xs = some (bootOut (bootS xs)) := by
  unfold store_Boot.f bootS
  rw [log_f hl, Option.bind_some]
  cases hlog : logB xs
  · rfl
  · have := logB_nums hlog
    have hb := boot_l0 hlog xs.length k 0 0 0 (by omega) (by omega) (by omega)
    rw [List.drop_zero, genFrom_all (by omega)] at hb
    rw [if_pos rfl]
    show store_Boot.l0 k xs (xs.length : Int) ((0 : Nat) : Int) xs xs 0 0 0 false = _
    rw [hb]
    by_cases h : newestD xs = 0
    · rw [if_pos h, if_neg (by simp), if_pos h]
      rfl
    · rw [if_neg h, if_neg (by simp), if_neg h]
      rfl
end Go.Proofs.YtopaddpclipnjaaQ.P
namespace Go.Proofs.YtopaddpclipnjaaQ.P
open Go.RowKit Go.Proofs.YtopaddpclipnjaaW.PrintWords Go.Proofs.YtopaddpclipnjaaW.PrintMore Go.Proofs.Ytopaddpclipnjaa
def goodN (n : Int) : Prop := 10 ≤ n ∧ n ≤ 130 ∧ n % 2 = 0
instance (n : Int) : Decidable (goodN n) := by unfold goodN; infer_instance
theorem new_f (n : Int) {k : Nat} (hk : 1 < k) : store_New.f k n = stoOut (if goodN n then (new0 n, 0) else (Sto.zero, 2)) := by
  obtain ⟨k, rfl⟩ : ∃ m, k = m + 1 := ⟨k - 1, by omega⟩
  unfold store_New.f sector_New.f newE
  rw [Option.bind_some]
  simp only
  by_cases h : 10 ≤ n ∧ n ≤ 130
  · rw [if_pos h, if_pos rfl]
    simp only [store_New.j0]
    rw [show Int.tmod n 2 = n % 2 from Int.tmod_eq_emod_of_nonneg (by omega)]
    by_cases h2 : n % 2 = 0
    · rw [if_neg (by simp [h2]), if_pos (show goodN n from ⟨h.1, h.2, h2⟩)]
      rfl
    · rw [if_pos (by simp [h2]), if_neg (fun hh : goodN n => h2 hh.2.2)]
      rfl
  · rw [if_neg h, if_neg (by omega), if_neg (fun hh : goodN n => h ⟨hh.1, hh.2.1⟩)]
    simp only [store_New.j0]
    rfl
theorem app_f (s : Sto) (p : ByteArray) (f : Flt) : store_Append.f s.xs s.gen s.used s.top s.down p f.kind f.k = stoOut (appendS s p f) := rfl
theorem alive_f {k : Nat} (hk : 300 < k) : foghornlaw04_alive.f k = some true := by
  unfold foghornlaw04_alive.f
  have h0 : Has (new0 10) [] := has_new (by omega) (by omega) (by omega)
  rw [new_f 10 (by omega), if_pos (by decide)]
  unfold stoOut
  rw [Option.bind_some]
  simp only
  have ha := app_f (new0 10) ⟨#[97]⟩ ⟨0, 0⟩
  rcases h0.append (p := ⟨#[97]⟩) (f := ⟨0, 0⟩) (by decide) (by decide) with ⟨_, e⟩ | ⟨_, e, c⟩
  · have := (logB_nums h0.inv.log).2.2.2.2.2.2.2.1
    simp at e
    omega
  · rw [e] at ha
    rcases c with ⟨k1, _⟩ | ⟨k1, _⟩ | ⟨_, ys, ey, I⟩
    · exact absurd k1 (by decide)
    · exact absurd k1 (by decide)
    · rw [ey] at ha
      rw [show store_Append.f (new0 10).xs (new0 10).gen (new0 10).used (new0 10).top (new0 10).down ⟨#[97]⟩ 0 0 = _ from ha]
      unfold stoOut
      rw [Option.bind_some]
      simp only
      have h1 : Has ⟨ys, 1, 0 + 1, 1, false⟩ ([] ++ [⟨#[97]⟩]) := I.has rfl
      have hb := app_f ⟨ys, 1, 0 + 1, 1, false⟩ ⟨#[98]⟩ ⟨2, 60⟩
      rcases h1.append (p := ⟨#[98]⟩) (f := ⟨2, 60⟩) (by decide) (by decide) with ⟨_, e⟩ | ⟨_, e, c⟩
      · have := (logB_nums h1.inv.log).2.2.2.2.2.2.2.1
        simp at e this
        omega
      · rw [e] at hb
        rcases c with ⟨k1, _⟩ | ⟨_, zs, ez, I2⟩ | ⟨k1, _⟩
        · exact absurd k1 (by decide)
        · rw [ez] at hb
          rw [show store_Append.f ys (new0 10).gen ((new0 10).used + 1) (new0 10).top (new0 10).down ⟨#[98]⟩ 2 60 = _ from hb]
          unfold stoOut
          rw [Option.bind_some]
          simp only
          rcases I2 with I2 | ⟨_, h⟩
          · have hl := (logB_nums I2.log).2.1
            rw [boot_f zs (by omega) (by omega), I2.boot]
            unfold bootOut
            rw [Option.bind_some]
            simp
            show ((⟨#[97]⟩ : ByteArray)).toList = _
            rw [ByteArray.toList_eq]
          · exact absurd h (by decide)
        · exact absurd k1 (by decide)
end Go.Proofs.YtopaddpclipnjaaQ.P
namespace Go.Proofs.YtopaddpclipnjaaQ.P
open Go.RowKit Go.Proofs.YtopaddpclipnjaaW.PrintWords Go.Proofs.Ytopaddpclipnjaa
theorem alive_only {k : Nat} {r : Bool} (h : foghornlaw04_alive.f k = some r) : r = true := by
  have hm : ∀ d, foghornlaw04_alive.f (k + d) = some r := by
    intro d
    induction d with
    | zero => exact h
    | succ d ih => exact (foghornlaw04_alive.mono (k + d)) _ ih
  have h1 := hm 301
  rw [alive_f (by omega)] at h1
  exact (Option.some.inj h1).symm
theorem foghornlaw04_alive.calls (k : Nat) (r : Bool) (w : World) (h : foghornlaw04_alive.f k = some r) :
    Calls Try.prog 15 #[] w fun e w' => e = .returned (.bool r) ∧ Below w.heap.size w w' := foghornlaw04_alive.callsT k r w h (alive_only h)
end Go.Proofs.YtopaddpclipnjaaQ.P
namespace Go.Proofs.YtopaddpclipnjaaQ.P
open Go.RowKit Go.Proofs.YtopaddpclipnjaaW.PrintWords Go.Proofs.YtopaddpclipnjaaW.PrintLast Go.Proofs.YtopaddpclipnjaaW.PrintMore
attribute [local go_sem] max2_int min2_int max_two min_two max_three min_three max_four min_four
def foghornlaw04_StoreFails.f (k : Nat) (l0_0 : List ByteArray) (a0_1 : Int) (a0_2 : Int) (a0_3 : Int) (a0_4 : Bool) (a1 : ByteArray) (a2 : ByteArray) : Option (Bool) := (foghornlaw04_cut.f k l0_0 a0_1 a0_2 a0_3 a0_4).bind fun bt338 => (if 0 ≤ (mn (a1.size : Int) 96) then (if (mn (a1.size : Int) 96) ≤ (a1.size : Int) then (if 0 ≤ (mn (a2.size : Int) 96) then (if (mn (a2.size : Int) 96) ≤ (a2.size : Int) then ((store_Append.f bt338.1 bt338.2.1 bt338.2.2.1 bt338.2.2.2.1 bt338.2.2.2.2 (a1.extract 0 ((mn (a1.size : Int) 96) : Int).toNat) 1 0).bind fun bt345 => ((store_Append.f bt338.1 bt338.2.1 bt338.2.2.1 bt338.2.2.2.1 bt338.2.2.2.2 (a2.extract 0 ((mn (a2.size : Int) 96) : Int).toNat) 0 0).bind fun bt354 => (if bt345.2.2.2.2.2 = 8 then ((store_Append.f bt345.1 bt345.2.1 bt345.2.2.1 bt345.2.2.2.1 bt345.2.2.2.2.1 (a2.extract 0 ((mn (a2.size : Int) 96) : Int).toNat) 0 0).bind fun bt365 => ((foghornlaw04_alive.f k).bind fun t374 => (if t374 = true then (if bt354.2.2.2.2.2 = 0 then (if bt365.2.2.2.2.2 = 0 then ((foghornref04_Same.f k bt345.1 bt345.2.1 bt345.2.2.1 bt345.2.2.2.1 bt345.2.2.2.2.1 bt338.1 bt338.2.1 bt338.2.2.1 bt338.2.2.2.1 bt338.2.2.2.2).bind fun t375 => (if t375 = true then ((foghornref04_Same.f k bt365.1 bt365.2.1 bt365.2.2.1 bt365.2.2.2.1 bt365.2.2.2.2.1 bt354.1 bt354.2.1 bt354.2.2.1 bt354.2.2.2.1 bt354.2.2.2.2.1).bind fun t376 => (some t376)) else (some false))) else (some false)) else (some false)) else (some false)))) else ((foghornlaw04_alive.f k).bind fun t363 => (if t363 = true then (if bt345.2.2.2.2.2 = bt354.2.2.2.2.2 then (if bt345.2.2.2.2.2 = 0 then (some false) else ((foghornref04_Same.f k bt345.1 bt345.2.1 bt345.2.2.1 bt345.2.2.2.1 bt345.2.2.2.2.1 ([] : List ByteArray) 0 0 0 false).bind fun t364 => (some t364))) else (some false)) else (some false)))))) else (none)) else (none)) else (none)) else (none))
def foghornlaw04_StoreFails.T1 : Bool × List (List Nat × List Nat) := (true, [([], []), ([0], [0]), ([], []), ([], []), ([3], [3]), ([4], [4]), ([2, 5], [2, 5]), ([], []), ([], []), ([8], [8]), ([9], [9]), ([7, 10], [7, 10]), ([1, 1, 0, 1], [1]), ([6, 12, 0, 1, 2, 3, 4, 5, 6, 12], [2, 3, 6]), ([11, 13, 0, 1, 2, 3, 4, 5, 6, 7, 8, 9, 10, 11, 12, 13], [7, 8, 11])])
def foghornlaw04_StoreFails.B1 : List Nat := [0, 1, 0, 0, 8, 24, 60, 0, 0, 256, 768, 1920, 3, 4223, 16383]
theorem foghornlaw04_StoreFails.tab1 : rtab .any (opsOf Try.f4 1) = foghornlaw04_StoreFails.T1 := by kernel_rfl
theorem foghornlaw04_StoreFails.bits1 : waitsOk foghornlaw04_StoreFails.T1.2 foghornlaw04_StoreFails.B1 = true := by kernel_rfl
set_option maxHeartbeats 8000000 in
set_option maxRecDepth 100000 in
theorem foghornlaw04_StoreFails.calls (k : Nat) (A0_0 : Option Addr) (c0_0 : Nat) (l0_0 : List ByteArray) (a0_1 : Int) (a0_2 : Int) (a0_3 : Int) (a0_4 : Bool) (a1 : ByteArray) (a2 : ByteArray) (r : Bool) (w : World) (hr0_0 : Kd.C Kd.string w A0_0 l0_0.length l0_0) (hc0_0 : l0_0.length ≤ c0_0) (h : foghornlaw04_StoreFails.f k l0_0 a0_1 a0_2 a0_3 a0_4 a1 a2 = some r) (hrt_ : r = true := by rfl) :
  Calls Try.prog 4 #[.agg #[.slice A0_0 l0_0.length c0_0, .int .i64 a0_1, .int .i64 a0_2, .int .i64 a0_3, .bool a0_4], .string a1, .string a2] w fun e w' => e = .returned (.bool r) ∧ Below w.heap.size w w' := by
 have hu26 := Try.underlying26
 have hu45 := Try.underlying45
 have HR0_0 := aA hr0_0
 have HC0_0 := aA hc0_0
 clear hr0_0 hc0_0
 have HB := aA (Below.refl w.heap.size w)
 have H : ((foghornlaw04_cut.f k l0_0 a0_1 a0_2 a0_3 a0_4).bind fun bt338 => (if 0 ≤ (mn (a1.size : Int) 96) then (if (mn (a1.size : Int) 96) ≤ (a1.size : Int) then (if 0 ≤ (mn (a2.size : Int) 96) then (if (mn (a2.size : Int) 96) ≤ (a2.size : Int) then ((store_Append.f bt338.1 bt338.2.1 bt338.2.2.1 bt338.2.2.2.1 bt338.2.2.2.2 (a1.extract 0 ((mn (a1.size : Int) 96) : Int).toNat) 1 0).bind fun bt345 => ((store_Append.f bt338.1 bt338.2.1 bt338.2.2.1 bt338.2.2.2.1 bt338.2.2.2.2 (a2.extract 0 ((mn (a2.size : Int) 96) : Int).toNat) 0 0).bind fun bt354 => (if bt345.2.2.2.2.2 = 8 then ((store_Append.f bt345.1 bt345.2.1 bt345.2.2.1 bt345.2.2.2.1 bt345.2.2.2.2.1 (a2.extract 0 ((mn (a2.size : Int) 96) : Int).toNat) 0 0).bind fun bt365 => ((foghornlaw04_alive.f k).bind fun t374 => (if t374 = true then (if bt354.2.2.2.2.2 = 0 then (if bt365.2.2.2.2.2 = 0 then ((foghornref04_Same.f k bt345.1 bt345.2.1 bt345.2.2.1 bt345.2.2.2.1 bt345.2.2.2.2.1 bt338.1 bt338.2.1 bt338.2.2.1 bt338.2.2.2.1 bt338.2.2.2.2).bind fun t375 => (if t375 = true then ((foghornref04_Same.f k bt365.1 bt365.2.1 bt365.2.2.1 bt365.2.2.2.1 bt365.2.2.2.2.1 bt354.1 bt354.2.1 bt354.2.2.1 bt354.2.2.2.1 bt354.2.2.2.2.1).bind fun t376 => (some t376)) else (some false))) else (some false)) else (some false)) else (some false)))) else ((foghornlaw04_alive.f k).bind fun t363 => (if t363 = true then (if bt345.2.2.2.2.2 = bt354.2.2.2.2.2 then (if bt345.2.2.2.2.2 = 0 then (some false) else ((foghornref04_Same.f k bt345.1 bt345.2.1 bt345.2.2.1 bt345.2.2.2.1 bt345.2.2.2.2.1 ([] : List ByteArray) 0 0 0 false).bind fun t364 => (some t364))) else (some false)) else (some false)))))) else (none)) else (none)) else (none)) else (none))) = some r := h
 clear h
 replace H := Option.bind_eq_some_iff.mp H
 obtain ⟨⟨t338, t341, t342, t343, t344⟩, A40, H⟩ := H
 have A4 := aA A40
 clear A40
 obtain ⟨ji5, hji5⟩ : ∃ j_ : Int, (mn (a1.size : Int) 96) = j_ := ⟨_, rfl⟩
 replace H : (if 0 ≤ (ji5) then (if (ji5) ≤ (a1.size : Int) then (if 0 ≤ (mn (a2.size : Int) 96) then (if (mn (a2.size : Int) 96) ≤ (a2.size : Int) then ((store_Append.f t338 t341 t342 t343 t344 (a1.extract 0 ((ji5) : Int).toNat) 1 0).bind fun bt345 => ((store_Append.f t338 t341 t342 t343 t344 (a2.extract 0 ((mn (a2.size : Int) 96) : Int).toNat) 0 0).bind fun bt354 => (if bt345.2.2.2.2.2 = 8 then ((store_Append.f bt345.1 bt345.2.1 bt345.2.2.1 bt345.2.2.2.1 bt345.2.2.2.2.1 (a2.extract 0 ((mn (a2.size : Int) 96) : Int).toNat) 0 0).bind fun bt365 => ((foghornlaw04_alive.f k).bind fun t374 => (if t374 = true then (if bt354.2.2.2.2.2 = 0 then (if bt365.2.2.2.2.2 = 0 then ((foghornref04_Same.f k bt345.1 bt345.2.1 bt345.2.2.1 bt345.2.2.2.1 bt345.2.2.2.2.1 t338 t341 t342 t343 t344).bind fun t375 => (if t375 = true then ((foghornref04_Same.f k bt365.1 bt365.2.1 bt365.2.2.1 bt365.2.2.2.1 bt365.2.2.2.2.1 bt354.1 bt354.2.1 bt354.2.2.1 bt354.2.2.2.1 bt354.2.2.2.2.1).bind fun t376 => (some t376)) else (some false))) else (some false)) else (some false)) else (some false)))) else ((foghornlaw04_alive.f k).bind fun t363 => (if t363 = true then (if bt345.2.2.2.2.2 = bt354.2.2.2.2.2 then (if bt345.2.2.2.2.2 = 0 then (some false) else ((foghornref04_Same.f k bt345.1 bt345.2.1 bt345.2.2.1 bt345.2.2.2.1 bt345.2.2.2.2.1 ([] : List ByteArray) 0 0 0 false).bind fun t364 => (some t364))) else (some false)) else (some false)))))) else (none)) else (none)) else (none)) else (none)) = some r := by first | (rw [hji5] at H; exact H) | (simp only [hji5] at H ⊢; exact H)
 (try rw [hji5] at A4)
 (try (have hji5h : ji5 ≤ 96 := by (rw [← hji5]; unfold mn; (repeat' split) <;> omega)))
 (try (have hji5g : ji5 ≤ 64 := by omega))
 (try (have hji5l : 0 ≤ ji5 := by (rw [← hji5]; unfold mn; (repeat' split) <;> omega)))
 (try (have hji5m : 0 ≤ ji5 := by omega))
 have hji5_ : (if 96 < (a1.size : Int) then 96 else (a1.size : Int)) = ji5 := hji5
 by_cases c6 : 0 ≤ (ji5)
 ·rw [if_pos c6] at H
  have c6b0 := eq_true c6
  have c6b1 := decide_eq_true c6
  clear c6
  by_cases c7 : (ji5) ≤ (a1.size : Int)
  ·rw [if_pos c7] at H
   have c7b0 := eq_true c7
   have c7b1 := decide_eq_true c7
   clear c7
   obtain ⟨ji8, hji8⟩ : ∃ j_ : Int, (mn (a2.size : Int) 96) = j_ := ⟨_, rfl⟩
   replace H : (if 0 ≤ (ji8) then (if (ji8) ≤ (a2.size : Int) then ((store_Append.f t338 t341 t342 t343 t344 (a1.extract 0 ((ji5) : Int).toNat) 1 0).bind fun bt345 => ((store_Append.f t338 t341 t342 t343 t344 (a2.extract 0 ((ji8) : Int).toNat) 0 0).bind fun bt354 => (if bt345.2.2.2.2.2 = 8 then ((store_Append.f bt345.1 bt345.2.1 bt345.2.2.1 bt345.2.2.2.1 bt345.2.2.2.2.1 (a2.extract 0 ((ji8) : Int).toNat) 0 0).bind fun bt365 => ((foghornlaw04_alive.f k).bind fun t374 => (if t374 = true then (if bt354.2.2.2.2.2 = 0 then (if bt365.2.2.2.2.2 = 0 then ((foghornref04_Same.f k bt345.1 bt345.2.1 bt345.2.2.1 bt345.2.2.2.1 bt345.2.2.2.2.1 t338 t341 t342 t343 t344).bind fun t375 => (if t375 = true then ((foghornref04_Same.f k bt365.1 bt365.2.1 bt365.2.2.1 bt365.2.2.2.1 bt365.2.2.2.2.1 bt354.1 bt354.2.1 bt354.2.2.1 bt354.2.2.2.1 bt354.2.2.2.2.1).bind fun t376 => (some t376)) else (some false))) else (some false)) else (some false)) else (some false)))) else ((foghornlaw04_alive.f k).bind fun t363 => (if t363 = true then (if bt345.2.2.2.2.2 = bt354.2.2.2.2.2 then (if bt345.2.2.2.2.2 = 0 then (some false) else ((foghornref04_Same.f k bt345.1 bt345.2.1 bt345.2.2.1 bt345.2.2.2.1 bt345.2.2.2.2.1 ([] : List ByteArray) 0 0 0 false).bind fun t364 => (some t364))) else (some false)) else (some false)))))) else (none)) else (none)) = some r := by first | (rw [hji8] at H; exact H) | (simp only [hji8] at H ⊢; exact H)
   (try rw [hji8] at A4)
   (try (have hji8h : ji8 ≤ 96 := by (rw [← hji8]; unfold mn; (repeat' split) <;> omega)))
   (try (have hji8g : ji8 ≤ 64 := by omega))
   (try (have hji8l : 0 ≤ ji8 := by (rw [← hji8]; unfold mn; (repeat' split) <;> omega)))
   (try (have hji8m : 0 ≤ ji8 := by omega))
   have hji8_ : (if 96 < (a2.size : Int) then 96 else (a2.size : Int)) = ji8 := hji8
   by_cases c9 : 0 ≤ (ji8)
   ·rw [if_pos c9] at H
    have c9b0 := eq_true c9
    have c9b1 := decide_eq_true c9
    clear c9
    by_cases c10 : (ji8) ≤ (a2.size : Int)
    ·rw [if_pos c10] at H
     have c10b0 := eq_true c10
     have c10b1 := decide_eq_true c10
     clear c10
     replace H := Option.bind_eq_some_iff.mp H
     obtain ⟨⟨t345, t348, t349, t350, t351, t352⟩, A110, H⟩ := H
     have A11 := aA A110
     clear A110
     replace H := Option.bind_eq_some_iff.mp H
     obtain ⟨⟨t354, t357, t358, t359, t360, t361⟩, A120, H⟩ := H
     have A12 := aA A120
     clear A120
     by_cases c13 : t352 = 8
     ·rw [if_pos c13] at H
      have c13b0 : (t352 == 8) = true := beq_iff_eq.mpr c13
      have c13b1 : (t352 != 8) = false := bne_eq_false_iff_eq.mpr c13
      clear c13
      replace H := Option.bind_eq_some_iff.mp H
      obtain ⟨⟨t365, t368, t369, t370, t371, t372⟩, A140, H⟩ := H
      have A14 := aA A140
      clear A140
      replace H := Option.bind_eq_some_iff.mp H
      obtain ⟨t374, A150, H⟩ := H
      have A15 := aA A150
      clear A150
      by_cases c16 : t374 = true
      ·subst c16
       have H1 : (if t361 = 0 then (if t372 = 0 then ((foghornref04_Same.f k t345 t348 t349 t350 t351 t338 t341 t342 t343 t344).bind fun t375 => (if t375 = true then ((foghornref04_Same.f k t365 t368 t369 t370 t371 t354 t357 t358 t359 t360).bind fun t376 => (some t376)) else (some false))) else (some false)) else (some false)) = some r := by rw [if_pos rfl] at H; exact H
       clear H
       have H := H1
       clear H1
       by_cases c17 : t361 = 0
       ·rw [if_pos c17] at H
        have c17b0 : (t361 == 0) = true := beq_iff_eq.mpr c17
        have c17b1 : (t361 != 0) = false := bne_eq_false_iff_eq.mpr c17
        clear c17
        by_cases c18 : t372 = 0
        ·rw [if_pos c18] at H
         have c18b0 : (t372 == 0) = true := beq_iff_eq.mpr c18
         have c18b1 : (t372 != 0) = false := bne_eq_false_iff_eq.mpr c18
         clear c18
         replace H := Option.bind_eq_some_iff.mp H
         obtain ⟨t375, A190, H⟩ := H
         have A19 := aA A190
         clear A190
         by_cases c20 : t375 = true
         ·subst c20
          have H1 : ((foghornref04_Same.f k t365 t368 t369 t370 t371 t354 t357 t358 t359 t360).bind fun t376 => (some t376)) = some r := by rw [if_pos rfl] at H; exact H
          clear H
          have H := H1
          clear H1
          replace H := Option.bind_eq_some_iff.mp H
          obtain ⟨t376, A210, H⟩ := H
          have A21 := aA A210
          clear A210
          obtain rfl := Option.some.inj H
          go_enter Try.func4, Try.ntmps4
          try go_wp2_with (first | ((with_reducible refine gate_dst (N := 3) rfl ?_); refine box_event ?hg (N := 3) ?hd (cs := #[.slice A0_0 l0_0.length c0_0, .int .i64 a0_1, .int .i64 a0_2, .int .i64 a0_3, .bool a0_4]) (t := 26) ?hr ?_; (case hd => rfl); (case hg => rfl); (case hr => first | (go_simp; done) | (go_simp; rfl)); intro gb337 hg w22 hbox hb; have n0_ := aA (below_step mB hb); have n1_ := aA (hbox); have n2_ := aA ((bZ hg mB)); have n3_ := aA ((bZ hg mB)); clear HB; have HB := n0_; have BK337 := n1_; have GW337 := n2_; have GE337 := n3_; clear n0_ n1_ n2_ n3_ hb hbox hg))
          have n0_ := aA (blk_drew BK337.out)
          have n1_ := aA (below_drew1 HB.out)
          clear BK337
          clear HB
          have BK337 := n0_
          have HB := n1_
          clear n0_ n1_
          refine start_ (n := 15) (S := fun w' => w'.cell? ⟨gb337, 0, none⟩ = some (.slice A0_0 l0_0.length c0_0) ∧ w'.cell? ⟨gb337, 1, none⟩ = some (.int .i64 a0_1) ∧ w'.cell? ⟨gb337, 2, none⟩ = some (.int .i64 a0_2) ∧ w'.cell? ⟨gb337, 3, none⟩ = some (.int .i64 a0_3) ∧ w'.cell? ⟨gb337, 4, none⟩ = some (.bool a0_4)) (ds := [12]) #[false, false, false, false, false, false, false, false, false, false, false, false, false, false, false] (by kernel_rfl) rfl rfl (bC5 BK337.out) (fun hHeld => ?_); refine with_tabW foghornlaw04_StoreFails.tab1 foghornlaw04_StoreFails.bits1 (fun HT_ HW_ => ?_)
          generalize w22.drew = w23 at BK337 HB hHeld ⊢
          refine pure_ (i := 2) (N := some 15) (v := ?_) (a' := ?_) #[false, false, true, false, false, false, false, false, false, false, false, false, false, false, false] rfl rfl (any_of HT_.out (by kernel_rfl)) (fun _ _ _ h => h) (Or.inl ⟨by rfl, ?_⟩) ?_ ?_
          rotate_left
          ·intro w'
           go_simp
           with_reducible rfl
          rotate_left
          ·exact mP
          refine pure_ (i := 3) (N := some 16) (v := ?_) (a' := ?_) #[false, false, true, true, false, false, false, false, false, false, false, false, false, false, false] rfl rfl (any_of HT_.out (by kernel_rfl)) (fun _ _ _ h => h) (Or.inl ⟨by rfl, ?_⟩) ?_ ?_
          rotate_left
          ·intro w'
           go_simp
           with_reducible rfl
          rotate_left
          ·exact mP
          refine pure_ (i := 4) (N := some 17) (v := ?_) (a' := ?_) #[false, false, true, true, true, false, false, false, false, false, false, false, false, false, false] rfl rfl (any_of HT_.out (by kernel_rfl)) (fun _ _ _ h => h) (Or.inl ⟨by rfl, ?_⟩) ?_ ?_
          rotate_left
          ·intro w'
           go_simp
           with_reducible rfl
          rotate_left
          ·exact mP
          refine pure_ (i := 5) (N := some 18) (v := ?_) (a' := ?_) #[false, false, true, true, true, true, false, false, false, false, false, false, false, false, false] rfl rfl (any_of HT_.out (by kernel_rfl)) (fun _ _ _ h => h) (Or.inl ⟨by rfl, ?_⟩) ?_ ?_
          rotate_left
          ·intro w'
           go_simp
           with_reducible rfl
          rotate_left
          ·exact mP
          refine pure_ (i := 6) (N := some 19) (v := ?_) (a' := ?_) #[false, false, true, true, true, true, true, false, false, false, false, false, false, false, false] rfl rfl (any_of HT_.out (by kernel_rfl)) (fun _ _ _ h => h) (Or.inl ⟨by rfl, ?_⟩) ?_ ?_
          rotate_left
          ·intro w'
           go_simp
           with_reducible rfl
          rotate_left
          ·exact mP
          refine pure_ (i := 7) (N := some 20) (v := ?_) (a' := ?_) #[false, false, true, true, true, true, true, true, false, false, false, false, false, false, false] rfl rfl (any_of HT_.out (by kernel_rfl)) (fun _ _ _ h => h) (Or.inl ⟨by rfl, ?_⟩) ?_ ?_
          rotate_left
          ·intro w'
           go_simp
           with_reducible rfl
          rotate_left
          ·exact mP
          refine pure_ (i := 8) (N := some 21) (v := ?_) (a' := ?_) #[false, false, true, true, true, true, true, true, true, false, false, false, false, false, false] rfl rfl (any_of HT_.out (by kernel_rfl)) (fun _ _ _ h => h) (Or.inl ⟨by rfl, ?_⟩) ?_ ?_
          rotate_left
          ·intro w'
           go_simp
           with_reducible rfl
          rotate_left
          ·exact mP
          refine pure_ (i := 9) (N := some 22) (v := ?_) (a' := ?_) #[false, false, true, true, true, true, true, true, true, true, false, false, false, false, false] rfl rfl (any_of HT_.out (by kernel_rfl)) (fun _ _ _ h => h) (Or.inl ⟨by rfl, ?_⟩) ?_ ?_
          rotate_left
          ·intro w'
           go_simp
           with_reducible rfl
          rotate_left
          ·exact mP
          refine pure_ (i := 10) (N := some 23) (v := ?_) (a' := ?_) #[false, false, true, true, true, true, true, true, true, true, true, false, false, false, false] rfl rfl (any_of HT_.out (by kernel_rfl)) (fun _ _ _ h => h) (Or.inl ⟨by rfl, ?_⟩) ?_ ?_
          rotate_left
          ·intro w'
           go_simp
           with_reducible rfl
          rotate_left
          ·exact mP
          refine pure_ (i := 11) (N := some 24) (v := ?_) (a' := ?_) #[false, false, true, true, true, true, true, true, true, true, true, true, false, false, false] rfl rfl (any_of HT_.out (by kernel_rfl)) (fun _ _ _ h => h) (Or.inl ⟨by rfl, ?_⟩) ?_ ?_
          rotate_left
          ·intro w'
           go_simp
           with_reducible rfl
          rotate_left
          ·exact mP
          refine take_ (i := 0) (N := some 13) (v := ?_) (a' := ?_) #[true, false, true, true, true, true, true, true, true, true, true, true, false, false, false] rfl rfl (take_ofW HT_.out HW_.out (by kernel_rfl)) (fun _ _ _ h => h) (Or.inl ⟨by rfl, ?_⟩) hHeld ?_ ?_
          rotate_left
          ·rintro w' ⟨s0, s1, s2, s3, s4⟩
           go_simp
           with_reducible rfl
          rotate_left
          ·exact mP
          refine one_ (i := 1) (N := some 14) #[true, true, true, true, true, true, true, true, true, true, true, true, false, false, false] rfl rfl (one_of HT_.out (by kernel_rfl)) (by decide) (fun K hK => ?_)
          refine goes_ Try.func9 (by kernel_rfl) rfl #[.agg #[.slice A0_0 l0_0.length c0_0, .int .i64 a0_1, .int .i64 a0_2, .int .i64 a0_3, .bool a0_4]] (by rfl) rfl rfl mS ?_
          with_reducible refine (foghornlaw04_cut.calls k _ _ l0_0 a0_1 a0_2 a0_3 a0_4 t338 t341 t342 t343 t344 _ ?side1 ?side2 A4.out).mono ?_
          (case side1 => exact mC ((Kd.C_below HR0_0.out HB.out)))
          (case side2 => exact HC0_0.out)
          rintro e w24 ⟨v339, rfl, ho0, hb⟩
          refine ⟨_, rfl, ?_⟩
          have n0_ := aA (Kd.R_lower ho0 (below_size (mD1 GE337.out)))
          have n1_ := aA (bB BK337.out hb)
          have n2_ := aA (below_step (mD1 GE337.out) hb)
          clear BK337
          clear HB
          have HO340 := n0_
          have BK337 := n1_
          have HB := n2_
          clear n0_ n1_ n2_
          (try clear hb)
          (try clear hb2)
          (try clear hk)
          (try clear hi)
          (try clear ho0)
          obtain ⟨Ao25, co25, eo25⟩ := Kd.R_slice HO340.out
          (first | subst eo25 | (injection eo25 with f1_ f2_ f3_; have f4_ := f1_.symm; have f5_ := f3_.symm; clear f1_ f2_ f3_; subst f4_; subst f5_))
          refine hK.out _ _ (bC5 BK337.out) (fun hHeld => ?_)
          clear hK K
          refine norm_ (a' := ?_) ?_ ?_
          rotate_left
          ·show Act.put _ (some 14) _ = _
           simp only [Act.put, List.setIfInBounds_toArray, List.set_cons_zero, List.set_cons_succ, i64_w, i32_w]
           rfl
          refine last_ (i := 12) (N := none) #[true, true, true, true, true, true, true, true, true, true, true, true, true, false, false] rfl rfl (one_of HT_.out (by kernel_rfl)) (by decide) (fun K hK => ?_)
          have hs26 : w24.cell? ⟨gb337, 0, none⟩ = some (.slice A0_0 l0_0.length c0_0) := (blk_cell BK337.out 0).trans rfl
          have hfs26 := blk_frozen BK337.out 0
          have hs27 : w24.cell? ⟨gb337, 1, none⟩ = some (.int .i64 a0_1) := (blk_cell BK337.out 1).trans rfl
          have hfs27 := blk_frozen BK337.out 1
          have hs28 : w24.cell? ⟨gb337, 2, none⟩ = some (.int .i64 a0_2) := (blk_cell BK337.out 2).trans rfl
          have hfs28 := blk_frozen BK337.out 2
          have hs29 : w24.cell? ⟨gb337, 3, none⟩ = some (.int .i64 a0_3) := (blk_cell BK337.out 3).trans rfl
          have hfs29 := blk_frozen BK337.out 3
          have hs30 : w24.cell? ⟨gb337, 4, none⟩ = some (.bool a0_4) := (blk_cell BK337.out 4).trans rfl
          have hfs30 := blk_frozen BK337.out 4
          refine skip_ (w1 := ?_) (by rfl) rfl ?_ ?_
          rotate_left
          ·go_simp
           rfl
          refine hK.out _ _ ?_
          clear hK K
          refine pure_ (i := 13) (N := some 1) (v := ?_) (a' := ?_) #[true, true, true, true, true, true, true, true, true, true, true, true, true, true, false] rfl rfl (any_of HT_.out (by kernel_rfl)) (fun _ _ _ h => h) (Or.inl ⟨by rfl, ?_⟩) ?_ ?_
          rotate_left
          ·intro w'
           go_simp
           with_reducible rfl
          rotate_left
          ·exact mP
          refine pure_ (i := 14) (N := some 2) (v := ?_) (a' := ?_) #[true, true, true, true, true, true, true, true, true, true, true, true, true, true, true] rfl rfl (any_of HT_.out (by kernel_rfl)) (fun _ _ _ h => h) (Or.inl ⟨by rfl, ?_⟩) ?_ ?_
          rotate_left
          ·intro w'
           go_simp
           with_reducible rfl
          rotate_left
          ·exact mP
          refine done_ (done_of HT_.out (by kernel_rfl)) ?_
          have n0_ : Aside0 (Kd.R Kd.string 9 (((((w24.setCell ⟨gb337, 0, none⟩ (.slice Ao25 t338.length co25)).setCell ⟨gb337, 1, none⟩ (.int .i64 t341)).setCell ⟨gb337, 2, none⟩ (.int .i64 t342)).setCell ⟨gb337, 3, none⟩ (.int .i64 t343)).setCell ⟨gb337, 4, none⟩ (.bool t344)) w.heap.size (fun _ => True) (.slice Ao25 t338.length co25) t338) := ⟨by (with_reducible repeat (first | apply Kd.R_alloc | apply Kd.R_drewN | apply Kd.R_drew)); exact Kd.R_mono (rF 4 (rF 3 (rF 2 (rF 1 (rF 0 (Kd.R_types HO340.out BK337.out (by decide))))))) (fun _ hk => trivial)⟩
          have n1_ : Aside0 ((((((w24.setCell ⟨gb337, 0, none⟩ (.slice Ao25 t338.length co25)).setCell ⟨gb337, 1, none⟩ (.int .i64 t341)).setCell ⟨gb337, 2, none⟩ (.int .i64 t342)).setCell ⟨gb337, 3, none⟩ (.int .i64 t343)).setCell ⟨gb337, 4, none⟩ (.bool t344)).heap[gb337]? = some (.cells #[.slice Ao25 t338.length co25, .int .i64 t341, .int .i64 t342, .int .i64 t343, .bool t344] 26 (0, 0))) := ⟨by (with_reducible repeat (first | refine blk_drewN ?_ _ | refine blk_drew ?_ | refine blk_alloc ?_ _)); refine blk_put (cs := #[.slice Ao25 t338.length co25, .int .i64 t341, .int .i64 t342, .int .i64 t343, .bool a0_4]) ?_ 4 _ rfl; (with_reducible repeat (first | refine blk_drewN ?_ _ | refine blk_drew ?_ | refine blk_alloc ?_ _)); refine blk_put (cs := #[.slice Ao25 t338.length co25, .int .i64 t341, .int .i64 t342, .int .i64 a0_3, .bool a0_4]) ?_ 3 _ rfl; (with_reducible repeat (first | refine blk_drewN ?_ _ | refine blk_drew ?_ | refine blk_alloc ?_ _)); refine blk_put (cs := #[.slice Ao25 t338.length co25, .int .i64 t341, .int .i64 a0_2, .int .i64 a0_3, .bool a0_4]) ?_ 2 _ rfl; (with_reducible repeat (first | refine blk_drewN ?_ _ | refine blk_drew ?_ | refine blk_alloc ?_ _)); refine blk_put (cs := #[.slice Ao25 t338.length co25, .int .i64 a0_1, .int .i64 a0_2, .int .i64 a0_3, .bool a0_4]) ?_ 1 _ rfl; (with_reducible repeat (first | refine blk_drewN ?_ _ | refine blk_drew ?_ | refine blk_alloc ?_ _)); refine blk_put (cs := #[.slice A0_0 l0_0.length c0_0, .int .i64 a0_1, .int .i64 a0_2, .int .i64 a0_3, .bool a0_4]) ?_ 0 _ rfl; (with_reducible repeat (first | refine blk_drewN ?_ _ | refine blk_drew ?_ | refine blk_alloc ?_ _)); exact BK337.out⟩
          have n2_ : Aside0 (Below w.heap.size w (((((w24.setCell ⟨gb337, 0, none⟩ (.slice Ao25 t338.length co25)).setCell ⟨gb337, 1, none⟩ (.int .i64 t341)).setCell ⟨gb337, 2, none⟩ (.int .i64 t342)).setCell ⟨gb337, 3, none⟩ (.int .i64 t343)).setCell ⟨gb337, 4, none⟩ (.bool t344))) := ⟨by repeat (first | (with_reducible first | exact HB.out | apply below_alloc | apply pw_below_drewN | apply below_drew1 | refine below_set ?_ GE337.out) | exact HB.out)⟩
          (try clear HO340)
          (try clear BK337)
          (try clear HB)
          generalize (((((w24.setCell ⟨gb337, 0, none⟩ (.slice Ao25 t338.length co25)).setCell ⟨gb337, 1, none⟩ (.int .i64 t341)).setCell ⟨gb337, 2, none⟩ (.int .i64 t342)).setCell ⟨gb337, 3, none⟩ (.int .i64 t343)).setCell ⟨gb337, 4, none⟩ (.bool t344)) = w31 at n0_ n1_ n2_ ⊢
          have HO340 := n0_
          have BK337 := n1_
          have HB := n2_
          clear n0_ n1_ n2_
          obtain ⟨hcz32_0, hcz32_1, hcz32_2, hcz32_3, hcz32_4⟩ := bC5 BK337.out
          obtain ⟨hfz32_0, hfz32_1, hfz32_2, hfz32_3, hfz32_4⟩ := bF5 BK337.out
          try go_wp2_with (first | ((with_reducible refine gate_callee (f := 21) rfl ?_); refine goesL_ (some 29) rfl rfl Try.func21 (by kernel_rfl) rfl #[.agg #[.slice Ao25 t338.length co25, .int .i64 t341, .int .i64 t342, .int .i64 t343, .bool t344], .string (a1.extract 0 ((ji5) : Int).toNat), .agg #[.int .i64 1, .int .i64 0]] rfl (by (try simp only [List.map_toArray, List.map_cons, List.map_nil]); first | done | (simp only [hji5]; rfl) | rfl | (simp only [List.length_drop, List.length_take]; rfl)) ?_; (with_reducible refine (store_Append.calls (fun k_ => some k_ = (.slice Ao25 t338.length co25 : Value).ownBlock) _ _ t338 t341 t342 t343 t344 (a1.extract 0 ((ji5) : Int).toNat) 1 0 t345 t348 t349 t350 t351 t352 _ ?side1 A11.out).mono ?_); (case side1 => exact Kd.R_V (Kd.R_tight rfl (Kd.R_types (HO340.out) BK337.out (by decide)))); rintro e w33 ⟨v346, rfl, ho0, hb⟩; refine ⟨_, rfl, ?_⟩; have n0_ := aA (Kd.R_below (mR HO340.out) hb); have n1_ := aA (Kd.V_lower (Kd.V_mono (ok' := fun k_ => k_ ≠ gb337) ho0 (fun k_ hk_ => Or.elim hk_ (fun hs_ => ((Kd.R_types (HO340.out) BK337.out (by decide)).1 k_ hs_.symm).2) (fun hn_ => (Kd.freshB (g := gb337) (o := .cells #[.slice Ao25 t338.length co25, .int .i64 t341, .int .i64 t342, .int .i64 t343, .bool t344] 26 (0, 0)) (mK BK337.out) k_ hn_)))) (below_size (mD1 GE337.out))); have n2_ := aA (bB BK337.out hb); have n3_ := aA (below_step (mD1 GE337.out) hb); clear HO340 BK337 HB; have HO340 := n0_; have HO347 := n1_; have BK337 := n2_; have HB := n3_; clear n0_ n1_ n2_ n3_; (try clear hb); (try clear hb2); (try clear hk); (try clear hi); (try clear ho0)) | ((with_reducible refine gate_dst (N := 7) rfl ?_); refine box_event ?hg (N := 7) ?hd (cs := #[.slice none 0 0, .int .i64 0, .int .i64 0, .int .i64 0, .bool false]) (t := 26) ?hr ?_; (case hd => rfl); (case hg => rfl); (case hr => first | (go_simp; done) | (go_simp; rfl)); intro gb353 hg w34 hbox hb; have n0_ := aA (Kd.R_below (mR HO340.out) hb); have n1_ := aA (Kd.V_below (Kd.V_elderB (by (with_reducible repeat (first | apply Kd.V_alloc | apply Kd.V_drewN | apply Kd.V_drew)); exact HO347.out) gb353 (Nat.le_of_eq hg.symm)) hb); have n2_ := aA (bB BK337.out hb); have n3_ := aA (below_step (mD1 GE337.out) hb); have n4_ := aA (hbox); have n5_ := aA ((bZ hg (mD1 GE337.out))); have n6_ := aA ((bZ hg (mD1 GE337.out))); have n7_ := aA ((bL hg BK337.out)); have n8_ := aA ((bG hg BK337.out)); clear HO340 HO347 BK337 HB; have HO340 := n0_; have HO347 := n1_; have BK337 := n2_; have HB := n3_; have BK353 := n4_; have GW353 := n5_; have GE353 := n6_; have NB337_353 := n7_; have NB353_337 := n8_; clear n0_ n1_ n2_ n3_ n4_ n5_ n6_ n7_ n8_ hb hbox hg; obtain ⟨Ao35, co35, eo35⟩ := Kd.V_slice HO347.out; subst eo35; have hnb36 := NB353_337.out; have hnc36 := NB337_353.out; obtain ⟨hcz37_0, hcz37_1, hcz37_2, hcz37_3, hcz37_4⟩ := bC5 BK353.out; obtain ⟨hfz37_0, hfz37_1, hfz37_2, hfz37_3, hfz37_4⟩ := bF5 BK353.out) | ((with_reducible refine gate_store (t := 26) (p := 7) rfl ?_); refine store_event (t := 26) (p := 7) (v := ?vo_w38) (w1 := (((((w34.setCell ⟨gb353, 0, none⟩ (.slice Ao35 t345.length co35)).setCell ⟨gb353, 1, none⟩ (.int .i64 t348)).setCell ⟨gb353, 2, none⟩ (.int .i64 t349)).setCell ⟨gb353, 3, none⟩ (.int .i64 t350)).setCell ⟨gb353, 4, none⟩ (.bool t351))) ?hg ?ho ?hn ?hr ?_; (case ho => rfl); (case hg => rfl); (case hn => rfl); (case hr => first | (go_simp; done) | (go_simp; rfl)); intro w38 hw; have n0_ : Aside0 (Kd.R Kd.string 9 w38 w.heap.size (fun _ => True) (.slice Ao25 t338.length co25) t338) := ⟨(by rw [hw]; exact (by (with_reducible repeat (first | apply Kd.R_alloc | apply Kd.R_drewN | apply Kd.R_drew)); exact Kd.R_mono (rF 4 (rF 3 (rF 2 (rF 1 (rF 0 (Kd.R_types HO340.out BK353.out (by decide))))))) (fun _ hk => trivial)))⟩; have n1_ : Aside0 (Kd.V Kd.string 9 w38 w.heap.size (fun k_ => k_ ≠ gb337 ∧ k_ ≠ gb353) (.slice Ao35 t345.length co35) t345) := ⟨(by rw [hw]; exact (by (with_reducible repeat (first | apply Kd.V_alloc | apply Kd.V_drewN | apply Kd.V_drew)); exact Kd.V_mono (Kd.V_far (p := ⟨gb353, 4, none⟩) (Kd.V_far (p := ⟨gb353, 3, none⟩) (Kd.V_far (p := ⟨gb353, 2, none⟩) (Kd.V_far (p := ⟨gb353, 1, none⟩) (Kd.V_far (p := ⟨gb353, 0, none⟩) (Kd.V_mono HO347.out (fun k_ hk => (⟨hk, hk.2⟩ : _ ∧ k_ ≠ gb353))) (fun _ hk => hk.2) (.slice Ao35 t345.length co35)) (fun _ hk => hk.2) (.int .i64 t348)) (fun _ hk => hk.2) (.int .i64 t349)) (fun _ hk => hk.2) (.int .i64 t350)) (fun _ hk => hk.2) (.bool t351)) (fun _ hk => ⟨hk.1.1, hk.1.2⟩)))⟩; have n2_ : Aside0 (w38.heap[gb337]? = some (.cells #[.slice Ao25 t338.length co25, .int .i64 t341, .int .i64 t342, .int .i64 t343, .bool t344] 26 (0, 0))) := ⟨(by rw [hw]; exact (by (with_reducible repeat (first | refine blk_drewN ?_ _ | refine blk_drew ?_ | refine blk_alloc ?_ _)); refine blk_far ?_ NB337_353.out _; (with_reducible repeat (first | refine blk_drewN ?_ _ | refine blk_drew ?_ | refine blk_alloc ?_ _)); refine blk_far ?_ NB337_353.out _; (with_reducible repeat (first | refine blk_drewN ?_ _ | refine blk_drew ?_ | refine blk_alloc ?_ _)); refine blk_far ?_ NB337_353.out _; (with_reducible repeat (first | refine blk_drewN ?_ _ | refine blk_drew ?_ | refine blk_alloc ?_ _)); refine blk_far ?_ NB337_353.out _; (with_reducible repeat (first | refine blk_drewN ?_ _ | refine blk_drew ?_ | refine blk_alloc ?_ _)); refine blk_far ?_ NB337_353.out _; (with_reducible repeat (first | refine blk_drewN ?_ _ | refine blk_drew ?_ | refine blk_alloc ?_ _)); exact BK337.out))⟩; have n3_ : Aside0 (w38.heap[gb353]? = some (.cells #[.slice Ao35 t345.length co35, .int .i64 t348, .int .i64 t349, .int .i64 t350, .bool t351] 26 (0, 0))) := ⟨(by rw [hw]; exact (by (with_reducible repeat (first | refine blk_drewN ?_ _ | refine blk_drew ?_ | refine blk_alloc ?_ _)); have h_ := BK353.out; exact pK 4 (pK 3 (pK 2 (pK 1 (pK 0 (h_)))))))⟩; have n4_ : Aside0 (Below w.heap.size w w38) := ⟨(by rw [hw]; exact (mD2 GE337.out GE353.out))⟩; clear hw HO340 HO347 BK337 BK353 HB; have HO340 := n0_; have HO347 := n1_; have BK337 := n2_; have BK353 := n3_; have HB := n4_; clear n0_ n1_ n2_ n3_ n4_; obtain ⟨hcz39_0, hcz39_1, hcz39_2, hcz39_3, hcz39_4⟩ := bC5 BK337.out; obtain ⟨hfz39_0, hfz39_1, hfz39_2, hfz39_3, hfz39_4⟩ := bF5 BK337.out) | ((with_reducible refine gate_callee (f := 21) rfl ?_); refine goesL_ (some 36) rfl rfl Try.func21 (by kernel_rfl) rfl #[.agg #[.slice Ao25 t338.length co25, .int .i64 t341, .int .i64 t342, .int .i64 t343, .bool t344], .string (a2.extract 0 ((ji8) : Int).toNat), .agg #[.int .i64 0, .int .i64 0]] rfl (by (try simp only [List.map_toArray, List.map_cons, List.map_nil]); first | done | (simp only [hji8]; rfl) | rfl | (simp only [List.length_drop, List.length_take]; rfl)) ?_; (with_reducible refine (store_Append.calls (fun k_ => some k_ = (.slice Ao25 t338.length co25 : Value).ownBlock) _ _ t338 t341 t342 t343 t344 (a2.extract 0 ((ji8) : Int).toNat) 0 0 t354 t357 t358 t359 t360 t361 _ ?side1 A12.out).mono ?_); (case side1 => exact Kd.R_V (Kd.R_tight rfl (Kd.R_types (Kd.R_types (HO340.out) BK337.out (by decide)) BK353.out (by decide)))); rintro e w40 ⟨v355, rfl, ho0, hb⟩; refine ⟨_, rfl, ?_⟩; have n0_ := aA (Kd.R_below (mR HO340.out) hb); have n1_ := aA (Kd.V_below (by (with_reducible repeat (first | apply Kd.V_alloc | apply Kd.V_drewN | apply Kd.V_drew)); exact HO347.out) hb); have n2_ := aA (Kd.V_lower (Kd.V_mono (ok' := fun k_ => k_ ≠ gb337 ∧ k_ ≠ gb353) ho0 (fun k_ hk_ => ⟨Or.elim hk_ (fun hs_ => ((Kd.R_types (Kd.R_types (HO340.out) BK337.out (by decide)) BK353.out (by decide)).1 k_ hs_.symm).1.2) (fun hn_ => (Kd.freshB (g := gb337) (o := .cells #[.slice Ao25 t338.length co25, .int .i64 t341, .int .i64 t342, .int .i64 t343, .bool t344] 26 (0, 0)) (mK BK337.out) k_ hn_)), Or.elim hk_ (fun hs_ => ((Kd.R_types (Kd.R_types (HO340.out) BK337.out (by decide)) BK353.out (by decide)).1 k_ hs_.symm).2) (fun hn_ => (Kd.freshB (g := gb353) (o := .cells #[.slice Ao35 t345.length co35, .int .i64 t348, .int .i64 t349, .int .i64 t350, .bool t351] 26 (0, 0)) (mK BK353.out) k_ hn_))⟩)) (below_size (mD2 GE337.out GE353.out))); have n3_ := aA (bB BK337.out hb); have n4_ := aA (bB BK353.out hb); have n5_ := aA (below_step (mD2 GE337.out GE353.out) hb); clear HO340 HO347 BK337 BK353 HB; have HO340 := n0_; have HO347 := n1_; have HO356 := n2_; have BK337 := n3_; have BK353 := n4_; have HB := n5_; clear n0_ n1_ n2_ n3_ n4_ n5_; (try clear hb); (try clear hb2); (try clear hk); (try clear hi); (try clear ho0)) | ((with_reducible refine gate_dst (N := 9) rfl ?_); refine box_event ?hg (N := 9) ?hd (cs := #[.slice none 0 0, .int .i64 0, .int .i64 0, .int .i64 0, .bool false]) (t := 26) ?hr ?_; (case hd => rfl); (case hg => rfl); (case hr => first | (go_simp; done) | (go_simp; rfl)); intro gb362 hg w41 hbox hb; have n0_ := aA (Kd.R_below (mR HO340.out) hb); have n1_ := aA (Kd.V_below (Kd.V_elderB (by (with_reducible repeat (first | apply Kd.V_alloc | apply Kd.V_drewN | apply Kd.V_drew)); exact HO347.out) gb362 (Nat.le_of_eq hg.symm)) hb); have n2_ := aA (Kd.V_below (Kd.V_elderB (by (with_reducible repeat (first | apply Kd.V_alloc | apply Kd.V_drewN | apply Kd.V_drew)); exact HO356.out) gb362 (Nat.le_of_eq hg.symm)) hb); have n3_ := aA (bB BK337.out hb); have n4_ := aA (bB BK353.out hb); have n5_ := aA (below_step (mD2 GE337.out GE353.out) hb); have n6_ := aA (hbox); have n7_ := aA ((bZ hg (mD2 GE337.out GE353.out))); have n8_ := aA ((bZ hg (mD2 GE337.out GE353.out))); have n9_ := aA ((bL hg BK337.out)); have n10_ := aA ((bG hg BK337.out)); have n11_ := aA ((bL hg BK353.out)); have n12_ := aA ((bG hg BK353.out)); clear HO340 HO347 HO356 BK337 BK353 HB; have HO340 := n0_; have HO347 := n1_; have HO356 := n2_; have BK337 := n3_; have BK353 := n4_; have HB := n5_; have BK362 := n6_; have GW362 := n7_; have GE362 := n8_; have NB337_362 := n9_; have NB362_337 := n10_; have NB353_362 := n11_; have NB362_353 := n12_; clear n0_ n1_ n2_ n3_ n4_ n5_ n6_ n7_ n8_ n9_ n10_ n11_ n12_ hb hbox hg; obtain ⟨Ao42, co42, eo42⟩ := Kd.V_slice HO356.out; subst eo42; have hnb43 := NB362_337.out; have hnc43 := NB337_362.out; have hnb44 := NB362_353.out; have hnc44 := NB353_362.out; obtain ⟨hcz45_0, hcz45_1, hcz45_2, hcz45_3, hcz45_4⟩ := bC5 BK362.out; obtain ⟨hfz45_0, hfz45_1, hfz45_2, hfz45_3, hfz45_4⟩ := bF5 BK362.out) | ((with_reducible refine gate_store (t := 26) (p := 9) rfl ?_); refine store_event (t := 26) (p := 9) (v := ?vo_w46) (w1 := (((((w41.setCell ⟨gb362, 0, none⟩ (.slice Ao42 t354.length co42)).setCell ⟨gb362, 1, none⟩ (.int .i64 t357)).setCell ⟨gb362, 2, none⟩ (.int .i64 t358)).setCell ⟨gb362, 3, none⟩ (.int .i64 t359)).setCell ⟨gb362, 4, none⟩ (.bool t360))) ?hg ?ho ?hn ?hr ?_; (case ho => rfl); (case hg => rfl); (case hn => rfl); (case hr => first | (go_simp; done) | (go_simp; rfl)); intro w46 hw; have n0_ : Aside0 (Kd.R Kd.string 9 w46 w.heap.size (fun _ => True) (.slice Ao25 t338.length co25) t338) := ⟨(by rw [hw]; exact (by (with_reducible repeat (first | apply Kd.R_alloc | apply Kd.R_drewN | apply Kd.R_drew)); exact Kd.R_mono (rF 4 (rF 3 (rF 2 (rF 1 (rF 0 (Kd.R_types HO340.out BK362.out (by decide))))))) (fun _ hk => trivial)))⟩; have n1_ : Aside0 (Kd.V Kd.string 9 w46 w.heap.size (fun k_ => k_ ≠ gb337 ∧ k_ ≠ gb353 ∧ k_ ≠ gb362) (.slice Ao35 t345.length co35) t345) := ⟨(by rw [hw]; exact (by (with_reducible repeat (first | apply Kd.V_alloc | apply Kd.V_drewN | apply Kd.V_drew)); exact Kd.V_mono (Kd.V_far (p := ⟨gb362, 4, none⟩) (Kd.V_far (p := ⟨gb362, 3, none⟩) (Kd.V_far (p := ⟨gb362, 2, none⟩) (Kd.V_far (p := ⟨gb362, 1, none⟩) (Kd.V_far (p := ⟨gb362, 0, none⟩) (Kd.V_mono HO347.out (fun k_ hk => (⟨hk, hk.2⟩ : _ ∧ k_ ≠ gb362))) (fun _ hk => hk.2) (.slice Ao42 t354.length co42)) (fun _ hk => hk.2) (.int .i64 t357)) (fun _ hk => hk.2) (.int .i64 t358)) (fun _ hk => hk.2) (.int .i64 t359)) (fun _ hk => hk.2) (.bool t360)) (fun _ hk => ⟨hk.1.1.1, ⟨hk.1.1.2, hk.1.2⟩⟩)))⟩; have n2_ : Aside0 (Kd.V Kd.string 9 w46 w.heap.size (fun k_ => k_ ≠ gb337 ∧ k_ ≠ gb353 ∧ k_ ≠ gb362) (.slice Ao42 t354.length co42) t354) := ⟨(by rw [hw]; exact (by (with_reducible repeat (first | apply Kd.V_alloc | apply Kd.V_drewN | apply Kd.V_drew)); exact Kd.V_mono (Kd.V_far (p := ⟨gb362, 4, none⟩) (Kd.V_far (p := ⟨gb362, 3, none⟩) (Kd.V_far (p := ⟨gb362, 2, none⟩) (Kd.V_far (p := ⟨gb362, 1, none⟩) (Kd.V_far (p := ⟨gb362, 0, none⟩) (Kd.V_mono HO356.out (fun k_ hk => (⟨hk, hk.2⟩ : _ ∧ k_ ≠ gb362))) (fun _ hk => hk.2) (.slice Ao42 t354.length co42)) (fun _ hk => hk.2) (.int .i64 t357)) (fun _ hk => hk.2) (.int .i64 t358)) (fun _ hk => hk.2) (.int .i64 t359)) (fun _ hk => hk.2) (.bool t360)) (fun _ hk => ⟨hk.1.1.1, ⟨hk.1.1.2, hk.1.2⟩⟩)))⟩; have n3_ : Aside0 (w46.heap[gb337]? = some (.cells #[.slice Ao25 t338.length co25, .int .i64 t341, .int .i64 t342, .int .i64 t343, .bool t344] 26 (0, 0))) := ⟨(by rw [hw]; exact (by (with_reducible repeat (first | refine blk_drewN ?_ _ | refine blk_drew ?_ | refine blk_alloc ?_ _)); refine blk_far ?_ NB337_362.out _; (with_reducible repeat (first | refine blk_drewN ?_ _ | refine blk_drew ?_ | refine blk_alloc ?_ _)); refine blk_far ?_ NB337_362.out _; (with_reducible repeat (first | refine blk_drewN ?_ _ | refine blk_drew ?_ | refine blk_alloc ?_ _)); refine blk_far ?_ NB337_362.out _; (with_reducible repeat (first | refine blk_drewN ?_ _ | refine blk_drew ?_ | refine blk_alloc ?_ _)); refine blk_far ?_ NB337_362.out _; (with_reducible repeat (first | refine blk_drewN ?_ _ | refine blk_drew ?_ | refine blk_alloc ?_ _)); refine blk_far ?_ NB337_362.out _; (with_reducible repeat (first | refine blk_drewN ?_ _ | refine blk_drew ?_ | refine blk_alloc ?_ _)); exact BK337.out))⟩; have n4_ : Aside0 (w46.heap[gb353]? = some (.cells #[.slice Ao35 t345.length co35, .int .i64 t348, .int .i64 t349, .int .i64 t350, .bool t351] 26 (0, 0))) := ⟨(by rw [hw]; exact (by (with_reducible repeat (first | refine blk_drewN ?_ _ | refine blk_drew ?_ | refine blk_alloc ?_ _)); refine blk_far ?_ NB353_362.out _; (with_reducible repeat (first | refine blk_drewN ?_ _ | refine blk_drew ?_ | refine blk_alloc ?_ _)); refine blk_far ?_ NB353_362.out _; (with_reducible repeat (first | refine blk_drewN ?_ _ | refine blk_drew ?_ | refine blk_alloc ?_ _)); refine blk_far ?_ NB353_362.out _; (with_reducible repeat (first | refine blk_drewN ?_ _ | refine blk_drew ?_ | refine blk_alloc ?_ _)); refine blk_far ?_ NB353_362.out _; (with_reducible repeat (first | refine blk_drewN ?_ _ | refine blk_drew ?_ | refine blk_alloc ?_ _)); refine blk_far ?_ NB353_362.out _; (with_reducible repeat (first | refine blk_drewN ?_ _ | refine blk_drew ?_ | refine blk_alloc ?_ _)); exact BK353.out))⟩; have n5_ : Aside0 (w46.heap[gb362]? = some (.cells #[.slice Ao42 t354.length co42, .int .i64 t357, .int .i64 t358, .int .i64 t359, .bool t360] 26 (0, 0))) := ⟨(by rw [hw]; exact (by (with_reducible repeat (first | refine blk_drewN ?_ _ | refine blk_drew ?_ | refine blk_alloc ?_ _)); have h_ := BK362.out; exact pK 4 (pK 3 (pK 2 (pK 1 (pK 0 (h_)))))))⟩; have n6_ : Aside0 (Below w.heap.size w w46) := ⟨(by rw [hw]; exact (mD3 GE337.out GE353.out GE362.out))⟩; clear hw HO340 HO347 HO356 BK337 BK353 BK362 HB; have HO340 := n0_; have HO347 := n1_; have HO356 := n2_; have BK337 := n3_; have BK353 := n4_; have BK362 := n5_; have HB := n6_; clear n0_ n1_ n2_ n3_ n4_ n5_ n6_; obtain ⟨hcz47_0, hcz47_1, hcz47_2, hcz47_3, hcz47_4⟩ := bC5 BK353.out; obtain ⟨hfz47_0, hfz47_1, hfz47_2, hfz47_3, hfz47_4⟩ := bF5 BK353.out) | ((with_reducible refine gate_callee (f := 21) rfl ?_); refine goesL_ (some 60) rfl rfl Try.func21 (by kernel_rfl) rfl #[.agg #[.slice Ao35 t345.length co35, .int .i64 t348, .int .i64 t349, .int .i64 t350, .bool t351], .string (a2.extract 0 ((ji8) : Int).toNat), .agg #[.int .i64 0, .int .i64 0]] rfl (by (try simp only [List.map_toArray, List.map_cons, List.map_nil]); first | done | (simp only [hji8]; rfl) | rfl | (simp only [List.length_drop, List.length_take]; rfl)) ?_; (with_reducible refine (store_Append.calls (fun k_ => (k_ ≠ gb337 ∧ (k_ ≠ gb353 ∧ k_ ≠ gb362))) _ _ t345 t348 t349 t350 t351 (a2.extract 0 ((ji8) : Int).toNat) 0 0 t365 t368 t369 t370 t371 t372 _ ?side1 A14.out).mono ?_); (case side1 => exact HO347.out); rintro e w48 ⟨v366, rfl, ho0, hb⟩; refine ⟨_, rfl, ?_⟩; have n0_ := aA (Kd.R_below (mR HO340.out) hb); have n1_ := aA (Kd.V_below (by (with_reducible repeat (first | apply Kd.V_alloc | apply Kd.V_drewN | apply Kd.V_drew)); exact HO347.out) hb); have n2_ := aA (Kd.V_below (by (with_reducible repeat (first | apply Kd.V_alloc | apply Kd.V_drewN | apply Kd.V_drew)); exact HO356.out) hb); have n3_ := aA (Kd.V_lower (Kd.V_mono (ok' := fun k_ => k_ ≠ gb337 ∧ k_ ≠ gb353 ∧ k_ ≠ gb362) ho0 (fun k_ hk_ => ⟨Or.elim hk_ (fun hs_ => hs_.1) (fun hn_ => (Kd.freshB (g := gb337) (o := .cells #[.slice Ao25 t338.length co25, .int .i64 t341, .int .i64 t342, .int .i64 t343, .bool t344] 26 (0, 0)) (mK BK337.out) k_ hn_)), Or.elim hk_ (fun hs_ => hs_.2.1) (fun hn_ => (Kd.freshB (g := gb353) (o := .cells #[.slice Ao35 t345.length co35, .int .i64 t348, .int .i64 t349, .int .i64 t350, .bool t351] 26 (0, 0)) (mK BK353.out) k_ hn_)), Or.elim hk_ (fun hs_ => hs_.2.2) (fun hn_ => (Kd.freshB (g := gb362) (o := .cells #[.slice Ao42 t354.length co42, .int .i64 t357, .int .i64 t358, .int .i64 t359, .bool t360] 26 (0, 0)) (mK BK362.out) k_ hn_))⟩)) (below_size (mD3 GE337.out GE353.out GE362.out))); have n4_ := aA (bB BK337.out hb); have n5_ := aA (bB BK353.out hb); have n6_ := aA (bB BK362.out hb); have n7_ := aA (below_step (mD3 GE337.out GE353.out GE362.out) hb); clear HO340 HO347 HO356 BK337 BK353 BK362 HB; have HO340 := n0_; have HO347 := n1_; have HO356 := n2_; have HO367 := n3_; have BK337 := n4_; have BK353 := n5_; have BK362 := n6_; have HB := n7_; clear n0_ n1_ n2_ n3_ n4_ n5_ n6_ n7_; (try clear hb); (try clear hb2); (try clear hk); (try clear hi); (try clear ho0)) | ((with_reducible refine gate_dst (N := 11) rfl ?_); refine box_event ?hg (N := 11) ?hd (cs := #[.slice none 0 0, .int .i64 0, .int .i64 0, .int .i64 0, .bool false]) (t := 26) ?hr ?_; (case hd => rfl); (case hg => rfl); (case hr => first | (go_simp; done) | (go_simp; rfl)); intro gb373 hg w49 hbox hb; have n0_ := aA (Kd.R_below (mR HO340.out) hb); have n1_ := aA (Kd.V_below (Kd.V_elderB (by (with_reducible repeat (first | apply Kd.V_alloc | apply Kd.V_drewN | apply Kd.V_drew)); exact HO347.out) gb373 (Nat.le_of_eq hg.symm)) hb); have n2_ := aA (Kd.V_below (Kd.V_elderB (by (with_reducible repeat (first | apply Kd.V_alloc | apply Kd.V_drewN | apply Kd.V_drew)); exact HO356.out) gb373 (Nat.le_of_eq hg.symm)) hb); have n3_ := aA (Kd.V_below (Kd.V_elderB (by (with_reducible repeat (first | apply Kd.V_alloc | apply Kd.V_drewN | apply Kd.V_drew)); exact HO367.out) gb373 (Nat.le_of_eq hg.symm)) hb); have n4_ := aA (bB BK337.out hb); have n5_ := aA (bB BK353.out hb); have n6_ := aA (bB BK362.out hb); have n7_ := aA (below_step (mD3 GE337.out GE353.out GE362.out) hb); have n8_ := aA (hbox); have n9_ := aA ((bZ hg (mD3 GE337.out GE353.out GE362.out))); have n10_ := aA ((bZ hg (mD3 GE337.out GE353.out GE362.out))); have n11_ := aA ((bL hg BK337.out)); have n12_ := aA ((bG hg BK337.out)); have n13_ := aA ((bL hg BK353.out)); have n14_ := aA ((bG hg BK353.out)); have n15_ := aA ((bL hg BK362.out)); have n16_ := aA ((bG hg BK362.out)); clear HO340 HO347 HO356 HO367 BK337 BK353 BK362 HB; have HO340 := n0_; have HO347 := n1_; have HO356 := n2_; have HO367 := n3_; have BK337 := n4_; have BK353 := n5_; have BK362 := n6_; have HB := n7_; have BK373 := n8_; have GW373 := n9_; have GE373 := n10_; have NB337_373 := n11_; have NB373_337 := n12_; have NB353_373 := n13_; have NB373_353 := n14_; have NB362_373 := n15_; have NB373_362 := n16_; clear n0_ n1_ n2_ n3_ n4_ n5_ n6_ n7_ n8_ n9_ n10_ n11_ n12_ n13_ n14_ n15_ n16_ hb hbox hg; obtain ⟨Ao50, co50, eo50⟩ := Kd.V_slice HO367.out; subst eo50; have hnb51 := NB373_337.out; have hnc51 := NB337_373.out; have hnb52 := NB373_353.out; have hnc52 := NB353_373.out; have hnb53 := NB373_362.out; have hnc53 := NB362_373.out; obtain ⟨hcz54_0, hcz54_1, hcz54_2, hcz54_3, hcz54_4⟩ := bC5 BK373.out; obtain ⟨hfz54_0, hfz54_1, hfz54_2, hfz54_3, hfz54_4⟩ := bF5 BK373.out) | ((with_reducible refine gate_callee (f := 15) rfl ?_); refine goesL_ (some 63) rfl rfl Try.func15 (by kernel_rfl) rfl #[] rfl mS ?_; (with_reducible refine (foghornlaw04_alive.calls k  true _ A15.out).mono ?_); rintro e w55 ⟨rfl, hb⟩; refine ⟨_, rfl, ?_⟩; have n0_ := aA (Kd.R_below (by (with_reducible repeat (first | apply Kd.R_alloc | apply Kd.R_drewN | apply Kd.R_drew)); exact (Kd.R_mono (rF 4 (rF 3 (rF 2 (rF 1 (rF 0 (Kd.R_types HO340.out BK373.out (by decide))))))) (fun _ h_ => h_.1))) hb); have n1_ := aA (Kd.V_below (by (with_reducible repeat (first | apply Kd.V_alloc | apply Kd.V_drewN | apply Kd.V_drew)); exact (Kd.V_mono (Kd.V_far (p := ⟨gb373, 4, none⟩) (Kd.V_far (p := ⟨gb373, 3, none⟩) (Kd.V_far (p := ⟨gb373, 2, none⟩) (Kd.V_far (p := ⟨gb373, 1, none⟩) (Kd.V_far (p := ⟨gb373, 0, none⟩) (Kd.V_mono HO347.out (fun k_ hk => (⟨hk, hk.2⟩ : _ ∧ k_ ≠ gb373))) (fun _ hk => hk.2) (.slice Ao50 t365.length co50)) (fun _ hk => hk.2) (.int .i64 t368)) (fun _ hk => hk.2) (.int .i64 t369)) (fun _ hk => hk.2) (.int .i64 t370)) (fun _ hk => hk.2) (.bool t371)) (fun _ h_ => h_.1))) hb); have n2_ := aA (Kd.V_below (by (with_reducible repeat (first | apply Kd.V_alloc | apply Kd.V_drewN | apply Kd.V_drew)); exact (Kd.V_mono (Kd.V_far (p := ⟨gb373, 4, none⟩) (Kd.V_far (p := ⟨gb373, 3, none⟩) (Kd.V_far (p := ⟨gb373, 2, none⟩) (Kd.V_far (p := ⟨gb373, 1, none⟩) (Kd.V_far (p := ⟨gb373, 0, none⟩) (Kd.V_mono HO356.out (fun k_ hk => (⟨hk, hk.2⟩ : _ ∧ k_ ≠ gb373))) (fun _ hk => hk.2) (.slice Ao50 t365.length co50)) (fun _ hk => hk.2) (.int .i64 t368)) (fun _ hk => hk.2) (.int .i64 t369)) (fun _ hk => hk.2) (.int .i64 t370)) (fun _ hk => hk.2) (.bool t371)) (fun _ h_ => h_.1))) hb); have n3_ := aA (Kd.V_below (by (with_reducible repeat (first | apply Kd.V_alloc | apply Kd.V_drewN | apply Kd.V_drew)); exact (Kd.V_mono (Kd.V_far (p := ⟨gb373, 4, none⟩) (Kd.V_far (p := ⟨gb373, 3, none⟩) (Kd.V_far (p := ⟨gb373, 2, none⟩) (Kd.V_far (p := ⟨gb373, 1, none⟩) (Kd.V_far (p := ⟨gb373, 0, none⟩) (Kd.V_mono HO367.out (fun k_ hk => (⟨hk, hk.2⟩ : _ ∧ k_ ≠ gb373))) (fun _ hk => hk.2) (.slice Ao50 t365.length co50)) (fun _ hk => hk.2) (.int .i64 t368)) (fun _ hk => hk.2) (.int .i64 t369)) (fun _ hk => hk.2) (.int .i64 t370)) (fun _ hk => hk.2) (.bool t371)) (fun _ h_ => h_.1))) hb); have n4_ := aA (blk_below (g := gb337) (o := .cells #[.slice Ao25 t338.length co25, .int .i64 t341, .int .i64 t342, .int .i64 t343, .bool t344] 26 (0, 0)) (by (with_reducible repeat (first | refine blk_drewN ?_ _ | refine blk_drew ?_ | refine blk_alloc ?_ _)); refine blk_far ?_ NB337_373.out _; (with_reducible repeat (first | refine blk_drewN ?_ _ | refine blk_drew ?_ | refine blk_alloc ?_ _)); refine blk_far ?_ NB337_373.out _; (with_reducible repeat (first | refine blk_drewN ?_ _ | refine blk_drew ?_ | refine blk_alloc ?_ _)); refine blk_far ?_ NB337_373.out _; (with_reducible repeat (first | refine blk_drewN ?_ _ | refine blk_drew ?_ | refine blk_alloc ?_ _)); refine blk_far ?_ NB337_373.out _; (with_reducible repeat (first | refine blk_drewN ?_ _ | refine blk_drew ?_ | refine blk_alloc ?_ _)); refine blk_far ?_ NB337_373.out _; (with_reducible repeat (first | refine blk_drewN ?_ _ | refine blk_drew ?_ | refine blk_alloc ?_ _)); exact BK337.out) hb); have n5_ := aA (blk_below (g := gb353) (o := .cells #[.slice Ao35 t345.length co35, .int .i64 t348, .int .i64 t349, .int .i64 t350, .bool t351] 26 (0, 0)) (by (with_reducible repeat (first | refine blk_drewN ?_ _ | refine blk_drew ?_ | refine blk_alloc ?_ _)); refine blk_far ?_ NB353_373.out _; (with_reducible repeat (first | refine blk_drewN ?_ _ | refine blk_drew ?_ | refine blk_alloc ?_ _)); refine blk_far ?_ NB353_373.out _; (with_reducible repeat (first | refine blk_drewN ?_ _ | refine blk_drew ?_ | refine blk_alloc ?_ _)); refine blk_far ?_ NB353_373.out _; (with_reducible repeat (first | refine blk_drewN ?_ _ | refine blk_drew ?_ | refine blk_alloc ?_ _)); refine blk_far ?_ NB353_373.out _; (with_reducible repeat (first | refine blk_drewN ?_ _ | refine blk_drew ?_ | refine blk_alloc ?_ _)); refine blk_far ?_ NB353_373.out _; (with_reducible repeat (first | refine blk_drewN ?_ _ | refine blk_drew ?_ | refine blk_alloc ?_ _)); exact BK353.out) hb); have n6_ := aA (blk_below (g := gb362) (o := .cells #[.slice Ao42 t354.length co42, .int .i64 t357, .int .i64 t358, .int .i64 t359, .bool t360] 26 (0, 0)) (by (with_reducible repeat (first | refine blk_drewN ?_ _ | refine blk_drew ?_ | refine blk_alloc ?_ _)); refine blk_far ?_ NB362_373.out _; (with_reducible repeat (first | refine blk_drewN ?_ _ | refine blk_drew ?_ | refine blk_alloc ?_ _)); refine blk_far ?_ NB362_373.out _; (with_reducible repeat (first | refine blk_drewN ?_ _ | refine blk_drew ?_ | refine blk_alloc ?_ _)); refine blk_far ?_ NB362_373.out _; (with_reducible repeat (first | refine blk_drewN ?_ _ | refine blk_drew ?_ | refine blk_alloc ?_ _)); refine blk_far ?_ NB362_373.out _; (with_reducible repeat (first | refine blk_drewN ?_ _ | refine blk_drew ?_ | refine blk_alloc ?_ _)); refine blk_far ?_ NB362_373.out _; (with_reducible repeat (first | refine blk_drewN ?_ _ | refine blk_drew ?_ | refine blk_alloc ?_ _)); exact BK362.out) hb); have n7_ := aA (blk_below (g := gb373) (o := .cells #[.slice Ao50 t365.length co50, .int .i64 t368, .int .i64 t369, .int .i64 t370, .bool t371] 26 (0, 0)) (by (with_reducible repeat (first | refine blk_drewN ?_ _ | refine blk_drew ?_ | refine blk_alloc ?_ _)); have h_ := BK373.out; exact pK 4 (pK 3 (pK 2 (pK 1 (pK 0 (h_)))))) hb); have n8_ := aA (below_step (by repeat (first | (with_reducible first | exact HB.out | apply below_alloc | apply pw_below_drewN | apply below_drew1 | refine below_set ?_ GE337.out | refine below_set ?_ GE353.out | refine below_set ?_ GE362.out | refine below_set ?_ GE373.out) | exact HB.out)) hb); clear HO340 HO347 HO356 HO367 BK337 BK353 BK362 BK373 HB; have HO340 := n0_; have HO347 := n1_; have HO356 := n2_; have HO367 := n3_; have BK337 := n4_; have BK353 := n5_; have BK362 := n6_; have BK373 := n7_; have HB := n8_; clear n0_ n1_ n2_ n3_ n4_ n5_ n6_ n7_ n8_; (try clear hb); (try clear hb2); (try clear hk); (try clear hi); obtain ⟨hcz56_0, hcz56_1, hcz56_2, hcz56_3, hcz56_4⟩ := bC5 BK353.out; obtain ⟨hfz56_0, hfz56_1, hfz56_2, hfz56_3, hfz56_4⟩ := bF5 BK353.out; obtain ⟨hcz57_0, hcz57_1, hcz57_2, hcz57_3, hcz57_4⟩ := bC5 BK337.out; obtain ⟨hfz57_0, hfz57_1, hfz57_2, hfz57_3, hfz57_4⟩ := bF5 BK337.out) | (go_at_call 16; (with_reducible refine (foghornref04_Same.calls k _ _ t345 t348 t349 t350 t351 _ _ t338 t341 t342 t343 t344 true _ ?side1 ?side2 ?side3 ?side4 A19.out).mono ?_); (case side1 => exact mC ((Kd.V_reads' HO347.out).2.2)); (case side2 => exact (Kd.V_reads' HO347.out).2.1); (case side3 => exact mC ((Kd.R_reads' HO340.out).2.2)); (case side4 => exact (Kd.R_reads' HO340.out).2.1); rintro e w58 ⟨rfl, hb⟩; have n0_ := aA (Kd.R_below (mR HO340.out) hb); have n1_ := aA (Kd.V_below (by (with_reducible repeat (first | apply Kd.V_alloc | apply Kd.V_drewN | apply Kd.V_drew)); exact HO347.out) hb); have n2_ := aA (Kd.V_below (by (with_reducible repeat (first | apply Kd.V_alloc | apply Kd.V_drewN | apply Kd.V_drew)); exact HO356.out) hb); have n3_ := aA (Kd.V_below (by (with_reducible repeat (first | apply Kd.V_alloc | apply Kd.V_drewN | apply Kd.V_drew)); exact HO367.out) hb); have n4_ := aA (bB BK337.out hb); have n5_ := aA (bB BK353.out hb); have n6_ := aA (bB BK362.out hb); have n7_ := aA (bB BK373.out hb); have n8_ := aA (below_step (by repeat (first | (with_reducible first | exact HB.out | apply below_alloc | apply pw_below_drewN | apply below_drew1 | refine below_set ?_ GE337.out | refine below_set ?_ GE353.out | refine below_set ?_ GE362.out | refine below_set ?_ GE373.out) | exact HB.out)) hb); clear HO340 HO347 HO356 HO367 BK337 BK353 BK362 BK373 HB; have HO340 := n0_; have HO347 := n1_; have HO356 := n2_; have HO367 := n3_; have BK337 := n4_; have BK353 := n5_; have BK362 := n6_; have BK373 := n7_; have HB := n8_; clear n0_ n1_ n2_ n3_ n4_ n5_ n6_ n7_ n8_; (try clear hb); (try clear hb2); (try clear hk); (try clear hi); obtain ⟨hcz59_0, hcz59_1, hcz59_2, hcz59_3, hcz59_4⟩ := bC5 BK373.out; obtain ⟨hfz59_0, hfz59_1, hfz59_2, hfz59_3, hfz59_4⟩ := bF5 BK373.out; obtain ⟨hcz60_0, hcz60_1, hcz60_2, hcz60_3, hcz60_4⟩ := bC5 BK362.out; obtain ⟨hfz60_0, hfz60_1, hfz60_2, hfz60_3, hfz60_4⟩ := bF5 BK362.out) | (go_at_call 16; (with_reducible refine (foghornref04_Same.calls k _ _ t365 t368 t369 t370 t371 _ _ t354 t357 t358 t359 t360 t376 _ ?side1 ?side2 ?side3 ?side4 A21.out).mono ?_); (case side1 => exact mC ((Kd.V_reads' HO367.out).2.2)); (case side2 => exact (Kd.V_reads' HO367.out).2.1); (case side3 => exact mC ((Kd.V_reads' HO356.out).2.2)); (case side4 => exact (Kd.V_reads' HO356.out).2.1); rintro e w61 ⟨rfl, hb⟩; have n0_ := aA (Kd.R_below (mR HO340.out) hb); have n1_ := aA (Kd.V_below (by (with_reducible repeat (first | apply Kd.V_alloc | apply Kd.V_drewN | apply Kd.V_drew)); exact HO347.out) hb); have n2_ := aA (Kd.V_below (by (with_reducible repeat (first | apply Kd.V_alloc | apply Kd.V_drewN | apply Kd.V_drew)); exact HO356.out) hb); have n3_ := aA (Kd.V_below (by (with_reducible repeat (first | apply Kd.V_alloc | apply Kd.V_drewN | apply Kd.V_drew)); exact HO367.out) hb); have n4_ := aA (bB BK337.out hb); have n5_ := aA (bB BK353.out hb); have n6_ := aA (bB BK362.out hb); have n7_ := aA (bB BK373.out hb); have n8_ := aA (below_step (by repeat (first | (with_reducible first | exact HB.out | apply below_alloc | apply pw_below_drewN | apply below_drew1 | refine below_set ?_ GE337.out | refine below_set ?_ GE353.out | refine below_set ?_ GE362.out | refine below_set ?_ GE373.out) | exact HB.out)) hb); clear HO340 HO347 HO356 HO367 BK337 BK353 BK362 BK373 HB; have HO340 := n0_; have HO347 := n1_; have HO356 := n2_; have HO367 := n3_; have BK337 := n4_; have BK353 := n5_; have BK362 := n6_; have BK373 := n7_; have HB := n8_; clear n0_ n1_ n2_ n3_ n4_ n5_ n6_ n7_ n8_; (try clear hb); (try clear hb2); (try clear hk); (try clear hi)))
          go_ret
          exact ⟨by first | rfl | (simp [errW_none, errW_some] <;> rfl) | (simp only [← hji5, ← hji8]; first | rfl | (simp [errW_none, errW_some] <;> rfl)) | (simp [*, errW_none, errW_some] <;> rfl), by repeat (first | (with_reducible first | exact HB.out | apply below_alloc | apply pw_below_drewN | apply below_drew1 | refine below_set ?_ GE337.out | refine below_set ?_ GE353.out | refine below_set ?_ GE362.out | refine below_set ?_ GE373.out) | exact HB.out)⟩
         ·replace c20 := Bool.eq_false_iff.mpr c20
          subst c20
          have H1 : (some false) = some r := by rw [if_neg (show ¬ (false = true) by decide)] at H; exact H
          clear H
          have H := H1
          clear H1
          exact absurd (Option.some.inj H) (by rw [hrt_]; decide)
        ·rw [if_neg c18] at H
         have c18b0 : (t372 == 0) = false := beq_eq_false_iff_ne.mpr c18
         have c18b1 : (t372 != 0) = true := bne_iff_ne.mpr c18
         exact absurd (Option.some.inj H) (by rw [hrt_]; decide)
       ·rw [if_neg c17] at H
        have c17b0 : (t361 == 0) = false := beq_eq_false_iff_ne.mpr c17
        have c17b1 : (t361 != 0) = true := bne_iff_ne.mpr c17
        exact absurd (Option.some.inj H) (by rw [hrt_]; decide)
      ·replace c16 := Bool.eq_false_iff.mpr c16
       subst c16
       have H1 : (some false) = some r := by rw [if_neg (show ¬ (false = true) by decide)] at H; exact H
       clear H
       have H := H1
       clear H1
       exact absurd (Option.some.inj H) (by rw [hrt_]; decide)
     ·rw [if_neg c13] at H
      have c13b0 : (t352 == 8) = false := beq_eq_false_iff_ne.mpr c13
      have c13b1 : (t352 != 8) = true := bne_iff_ne.mpr c13
      replace H := Option.bind_eq_some_iff.mp H
      obtain ⟨t363, A2010, H⟩ := H
      have A201 := aA A2010
      clear A2010
      by_cases c202 : t363 = true
      ·subst c202
       have H1 : (if t352 = t361 then (if t352 = 0 then (some false) else ((foghornref04_Same.f k t345 t348 t349 t350 t351 ([] : List ByteArray) 0 0 0 false).bind fun t364 => (some t364))) else (some false)) = some r := by rw [if_pos rfl] at H; exact H
       clear H
       have H := H1
       clear H1
       by_cases c203 : t352 = t361
       ·rw [if_pos c203] at H
        have c203b0 : (t352 == t361) = true := beq_iff_eq.mpr c203
        have c203b1 : (t352 != t361) = false := bne_eq_false_iff_eq.mpr c203
        clear c203
        by_cases c204 : t352 = 0
        ·rw [if_pos c204] at H
         have c204b0 : (t352 == 0) = true := beq_iff_eq.mpr c204
         have c204b1 : (t352 != 0) = false := bne_eq_false_iff_eq.mpr c204
         clear c204
         exact absurd (Option.some.inj H) (by rw [hrt_]; decide)
        ·rw [if_neg c204] at H
         have c204b0 : (t352 == 0) = false := beq_eq_false_iff_ne.mpr c204
         have c204b1 : (t352 != 0) = true := bne_iff_ne.mpr c204
         replace H := Option.bind_eq_some_iff.mp H
         obtain ⟨t364, A2300, H⟩ := H
         have A230 := aA A2300
         clear A2300
         obtain rfl := Option.some.inj H
         go_enter Try.func4, Try.ntmps4
         try go_wp2_with (first | ((with_reducible refine gate_dst (N := 3) rfl ?_); refine box_event ?hg (N := 3) ?hd (cs := #[.slice A0_0 l0_0.length c0_0, .int .i64 a0_1, .int .i64 a0_2, .int .i64 a0_3, .bool a0_4]) (t := 26) ?hr ?_; (case hd => rfl); (case hg => rfl); (case hr => first | (go_simp; done) | (go_simp; rfl)); intro gb337 hg w231 hbox hb; have n0_ := aA (below_step mB hb); have n1_ := aA (hbox); have n2_ := aA ((bZ hg mB)); have n3_ := aA ((bZ hg mB)); clear HB; have HB := n0_; have BK337 := n1_; have GW337 := n2_; have GE337 := n3_; clear n0_ n1_ n2_ n3_ hb hbox hg))
         have n0_ := aA (blk_drew BK337.out)
         have n1_ := aA (below_drew1 HB.out)
         clear BK337
         clear HB
         have BK337 := n0_
         have HB := n1_
         clear n0_ n1_
         refine start_ (n := 15) (S := fun w' => w'.cell? ⟨gb337, 0, none⟩ = some (.slice A0_0 l0_0.length c0_0) ∧ w'.cell? ⟨gb337, 1, none⟩ = some (.int .i64 a0_1) ∧ w'.cell? ⟨gb337, 2, none⟩ = some (.int .i64 a0_2) ∧ w'.cell? ⟨gb337, 3, none⟩ = some (.int .i64 a0_3) ∧ w'.cell? ⟨gb337, 4, none⟩ = some (.bool a0_4)) (ds := [12]) #[false, false, false, false, false, false, false, false, false, false, false, false, false, false, false] (by kernel_rfl) rfl rfl (bC5 BK337.out) (fun hHeld => ?_); refine with_tabW foghornlaw04_StoreFails.tab1 foghornlaw04_StoreFails.bits1 (fun HT_ HW_ => ?_)
         generalize w231.drew = w232 at BK337 HB hHeld ⊢
         refine pure_ (i := 2) (N := some 15) (v := ?_) (a' := ?_) #[false, false, true, false, false, false, false, false, false, false, false, false, false, false, false] rfl rfl (any_of HT_.out (by kernel_rfl)) (fun _ _ _ h => h) (Or.inl ⟨by rfl, ?_⟩) ?_ ?_
         rotate_left
         ·intro w'
          go_simp
          with_reducible rfl
         rotate_left
         ·exact mP
         refine pure_ (i := 3) (N := some 16) (v := ?_) (a' := ?_) #[false, false, true, true, false, false, false, false, false, false, false, false, false, false, false] rfl rfl (any_of HT_.out (by kernel_rfl)) (fun _ _ _ h => h) (Or.inl ⟨by rfl, ?_⟩) ?_ ?_
         rotate_left
         ·intro w'
          go_simp
          with_reducible rfl
         rotate_left
         ·exact mP
         refine pure_ (i := 4) (N := some 17) (v := ?_) (a' := ?_) #[false, false, true, true, true, false, false, false, false, false, false, false, false, false, false] rfl rfl (any_of HT_.out (by kernel_rfl)) (fun _ _ _ h => h) (Or.inl ⟨by rfl, ?_⟩) ?_ ?_
         rotate_left
         ·intro w'
          go_simp
          with_reducible rfl
         rotate_left
         ·exact mP
         refine pure_ (i := 5) (N := some 18) (v := ?_) (a' := ?_) #[false, false, true, true, true, true, false, false, false, false, false, false, false, false, false] rfl rfl (any_of HT_.out (by kernel_rfl)) (fun _ _ _ h => h) (Or.inl ⟨by rfl, ?_⟩) ?_ ?_
         rotate_left
         ·intro w'
          go_simp
          with_reducible rfl
         rotate_left
         ·exact mP
         refine pure_ (i := 6) (N := some 19) (v := ?_) (a' := ?_) #[false, false, true, true, true, true, true, false, false, false, false, false, false, false, false] rfl rfl (any_of HT_.out (by kernel_rfl)) (fun _ _ _ h => h) (Or.inl ⟨by rfl, ?_⟩) ?_ ?_
         rotate_left
         ·intro w'
          go_simp
          with_reducible rfl
         rotate_left
         ·exact mP
         refine pure_ (i := 7) (N := some 20) (v := ?_) (a' := ?_) #[false, false, true, true, true, true, true, true, false, false, false, false, false, false, false] rfl rfl (any_of HT_.out (by kernel_rfl)) (fun _ _ _ h => h) (Or.inl ⟨by rfl, ?_⟩) ?_ ?_
         rotate_left
         ·intro w'
          go_simp
          with_reducible rfl
         rotate_left
         ·exact mP
         refine pure_ (i := 8) (N := some 21) (v := ?_) (a' := ?_) #[false, false, true, true, true, true, true, true, true, false, false, false, false, false, false] rfl rfl (any_of HT_.out (by kernel_rfl)) (fun _ _ _ h => h) (Or.inl ⟨by rfl, ?_⟩) ?_ ?_
         rotate_left
         ·intro w'
          go_simp
          with_reducible rfl
         rotate_left
         ·exact mP
         refine pure_ (i := 9) (N := some 22) (v := ?_) (a' := ?_) #[false, false, true, true, true, true, true, true, true, true, false, false, false, false, false] rfl rfl (any_of HT_.out (by kernel_rfl)) (fun _ _ _ h => h) (Or.inl ⟨by rfl, ?_⟩) ?_ ?_
         rotate_left
         ·intro w'
          go_simp
          with_reducible rfl
         rotate_left
         ·exact mP
         refine pure_ (i := 10) (N := some 23) (v := ?_) (a' := ?_) #[false, false, true, true, true, true, true, true, true, true, true, false, false, false, false] rfl rfl (any_of HT_.out (by kernel_rfl)) (fun _ _ _ h => h) (Or.inl ⟨by rfl, ?_⟩) ?_ ?_
         rotate_left
         ·intro w'
          go_simp
          with_reducible rfl
         rotate_left
         ·exact mP
         refine pure_ (i := 11) (N := some 24) (v := ?_) (a' := ?_) #[false, false, true, true, true, true, true, true, true, true, true, true, false, false, false] rfl rfl (any_of HT_.out (by kernel_rfl)) (fun _ _ _ h => h) (Or.inl ⟨by rfl, ?_⟩) ?_ ?_
         rotate_left
         ·intro w'
          go_simp
          with_reducible rfl
         rotate_left
         ·exact mP
         refine take_ (i := 0) (N := some 13) (v := ?_) (a' := ?_) #[true, false, true, true, true, true, true, true, true, true, true, true, false, false, false] rfl rfl (take_ofW HT_.out HW_.out (by kernel_rfl)) (fun _ _ _ h => h) (Or.inl ⟨by rfl, ?_⟩) hHeld ?_ ?_
         rotate_left
         ·rintro w' ⟨s0, s1, s2, s3, s4⟩
          go_simp
          with_reducible rfl
         rotate_left
         ·exact mP
         refine one_ (i := 1) (N := some 14) #[true, true, true, true, true, true, true, true, true, true, true, true, false, false, false] rfl rfl (one_of HT_.out (by kernel_rfl)) (by decide) (fun K hK => ?_)
         refine goes_ Try.func9 (by kernel_rfl) rfl #[.agg #[.slice A0_0 l0_0.length c0_0, .int .i64 a0_1, .int .i64 a0_2, .int .i64 a0_3, .bool a0_4]] (by rfl) rfl rfl mS ?_
         with_reducible refine (foghornlaw04_cut.calls k _ _ l0_0 a0_1 a0_2 a0_3 a0_4 t338 t341 t342 t343 t344 _ ?side1 ?side2 A4.out).mono ?_
         (case side1 => exact mC ((Kd.C_below HR0_0.out HB.out)))
         (case side2 => exact HC0_0.out)
         rintro e w233 ⟨v339, rfl, ho0, hb⟩
         refine ⟨_, rfl, ?_⟩
         have n0_ := aA (Kd.R_lower ho0 (below_size (mD1 GE337.out)))
         have n1_ := aA (bB BK337.out hb)
         have n2_ := aA (below_step (mD1 GE337.out) hb)
         clear BK337
         clear HB
         have HO340 := n0_
         have BK337 := n1_
         have HB := n2_
         clear n0_ n1_ n2_
         (try clear hb)
         (try clear hb2)
         (try clear hk)
         (try clear hi)
         (try clear ho0)
         obtain ⟨Ao234, co234, eo234⟩ := Kd.R_slice HO340.out
         (first | subst eo234 | (injection eo234 with f1_ f2_ f3_; have f4_ := f1_.symm; have f5_ := f3_.symm; clear f1_ f2_ f3_; subst f4_; subst f5_))
         refine hK.out _ _ (bC5 BK337.out) (fun hHeld => ?_)
         clear hK K
         refine norm_ (a' := ?_) ?_ ?_
         rotate_left
         ·show Act.put _ (some 14) _ = _
          simp only [Act.put, List.setIfInBounds_toArray, List.set_cons_zero, List.set_cons_succ, i64_w, i32_w]
          rfl
         refine last_ (i := 12) (N := none) #[true, true, true, true, true, true, true, true, true, true, true, true, true, false, false] rfl rfl (one_of HT_.out (by kernel_rfl)) (by decide) (fun K hK => ?_)
         have hs235 : w233.cell? ⟨gb337, 0, none⟩ = some (.slice A0_0 l0_0.length c0_0) := (blk_cell BK337.out 0).trans rfl
         have hfs235 := blk_frozen BK337.out 0
         have hs236 : w233.cell? ⟨gb337, 1, none⟩ = some (.int .i64 a0_1) := (blk_cell BK337.out 1).trans rfl
         have hfs236 := blk_frozen BK337.out 1
         have hs237 : w233.cell? ⟨gb337, 2, none⟩ = some (.int .i64 a0_2) := (blk_cell BK337.out 2).trans rfl
         have hfs237 := blk_frozen BK337.out 2
         have hs238 : w233.cell? ⟨gb337, 3, none⟩ = some (.int .i64 a0_3) := (blk_cell BK337.out 3).trans rfl
         have hfs238 := blk_frozen BK337.out 3
         have hs239 : w233.cell? ⟨gb337, 4, none⟩ = some (.bool a0_4) := (blk_cell BK337.out 4).trans rfl
         have hfs239 := blk_frozen BK337.out 4
         refine skip_ (w1 := ?_) (by rfl) rfl ?_ ?_
         rotate_left
         ·go_simp
          rfl
         refine hK.out _ _ ?_
         clear hK K
         refine pure_ (i := 13) (N := some 1) (v := ?_) (a' := ?_) #[true, true, true, true, true, true, true, true, true, true, true, true, true, true, false] rfl rfl (any_of HT_.out (by kernel_rfl)) (fun _ _ _ h => h) (Or.inl ⟨by rfl, ?_⟩) ?_ ?_
         rotate_left
         ·intro w'
          go_simp
          with_reducible rfl
         rotate_left
         ·exact mP
         refine pure_ (i := 14) (N := some 2) (v := ?_) (a' := ?_) #[true, true, true, true, true, true, true, true, true, true, true, true, true, true, true] rfl rfl (any_of HT_.out (by kernel_rfl)) (fun _ _ _ h => h) (Or.inl ⟨by rfl, ?_⟩) ?_ ?_
         rotate_left
         ·intro w'
          go_simp
          with_reducible rfl
         rotate_left
         ·exact mP
         refine done_ (done_of HT_.out (by kernel_rfl)) ?_
         have n0_ : Aside0 (Kd.R Kd.string 9 (((((w233.setCell ⟨gb337, 0, none⟩ (.slice Ao234 t338.length co234)).setCell ⟨gb337, 1, none⟩ (.int .i64 t341)).setCell ⟨gb337, 2, none⟩ (.int .i64 t342)).setCell ⟨gb337, 3, none⟩ (.int .i64 t343)).setCell ⟨gb337, 4, none⟩ (.bool t344)) w.heap.size (fun _ => True) (.slice Ao234 t338.length co234) t338) := ⟨by (with_reducible repeat (first | apply Kd.R_alloc | apply Kd.R_drewN | apply Kd.R_drew)); exact Kd.R_mono (rF 4 (rF 3 (rF 2 (rF 1 (rF 0 (Kd.R_types HO340.out BK337.out (by decide))))))) (fun _ hk => trivial)⟩
         have n1_ : Aside0 ((((((w233.setCell ⟨gb337, 0, none⟩ (.slice Ao234 t338.length co234)).setCell ⟨gb337, 1, none⟩ (.int .i64 t341)).setCell ⟨gb337, 2, none⟩ (.int .i64 t342)).setCell ⟨gb337, 3, none⟩ (.int .i64 t343)).setCell ⟨gb337, 4, none⟩ (.bool t344)).heap[gb337]? = some (.cells #[.slice Ao234 t338.length co234, .int .i64 t341, .int .i64 t342, .int .i64 t343, .bool t344] 26 (0, 0))) := ⟨by (with_reducible repeat (first | refine blk_drewN ?_ _ | refine blk_drew ?_ | refine blk_alloc ?_ _)); refine blk_put (cs := #[.slice Ao234 t338.length co234, .int .i64 t341, .int .i64 t342, .int .i64 t343, .bool a0_4]) ?_ 4 _ rfl; (with_reducible repeat (first | refine blk_drewN ?_ _ | refine blk_drew ?_ | refine blk_alloc ?_ _)); refine blk_put (cs := #[.slice Ao234 t338.length co234, .int .i64 t341, .int .i64 t342, .int .i64 a0_3, .bool a0_4]) ?_ 3 _ rfl; (with_reducible repeat (first | refine blk_drewN ?_ _ | refine blk_drew ?_ | refine blk_alloc ?_ _)); refine blk_put (cs := #[.slice Ao234 t338.length co234, .int .i64 t341, .int .i64 a0_2, .int .i64 a0_3, .bool a0_4]) ?_ 2 _ rfl; (with_reducible repeat (first | refine blk_drewN ?_ _ | refine blk_drew ?_ | refine blk_alloc ?_ _)); refine blk_put (cs := #[.slice Ao234 t338.length co234, .int .i64 a0_1, .int .i64 a0_2, .int .i64 a0_3, .bool a0_4]) ?_ 1 _ rfl; (with_reducible repeat (first | refine blk_drewN ?_ _ | refine blk_drew ?_ | refine blk_alloc ?_ _)); refine blk_put (cs := #[.slice A0_0 l0_0.length c0_0, .int .i64 a0_1, .int .i64 a0_2, .int .i64 a0_3, .bool a0_4]) ?_ 0 _ rfl; (with_reducible repeat (first | refine blk_drewN ?_ _ | refine blk_drew ?_ | refine blk_alloc ?_ _)); exact BK337.out⟩
         have n2_ : Aside0 (Below w.heap.size w (((((w233.setCell ⟨gb337, 0, none⟩ (.slice Ao234 t338.length co234)).setCell ⟨gb337, 1, none⟩ (.int .i64 t341)).setCell ⟨gb337, 2, none⟩ (.int .i64 t342)).setCell ⟨gb337, 3, none⟩ (.int .i64 t343)).setCell ⟨gb337, 4, none⟩ (.bool t344))) := ⟨by repeat (first | (with_reducible first | exact HB.out | apply below_alloc | apply pw_below_drewN | apply below_drew1 | refine below_set ?_ GE337.out) | exact HB.out)⟩
         (try clear HO340)
         (try clear BK337)
         (try clear HB)
         generalize (((((w233.setCell ⟨gb337, 0, none⟩ (.slice Ao234 t338.length co234)).setCell ⟨gb337, 1, none⟩ (.int .i64 t341)).setCell ⟨gb337, 2, none⟩ (.int .i64 t342)).setCell ⟨gb337, 3, none⟩ (.int .i64 t343)).setCell ⟨gb337, 4, none⟩ (.bool t344)) = w240 at n0_ n1_ n2_ ⊢
         have HO340 := n0_
         have BK337 := n1_
         have HB := n2_
         clear n0_ n1_ n2_
         obtain ⟨hcz241_0, hcz241_1, hcz241_2, hcz241_3, hcz241_4⟩ := bC5 BK337.out
         obtain ⟨hfz241_0, hfz241_1, hfz241_2, hfz241_3, hfz241_4⟩ := bF5 BK337.out
         try go_wp2_with (first | ((with_reducible refine gate_callee (f := 21) rfl ?_); refine goesL_ (some 29) rfl rfl Try.func21 (by kernel_rfl) rfl #[.agg #[.slice Ao234 t338.length co234, .int .i64 t341, .int .i64 t342, .int .i64 t343, .bool t344], .string (a1.extract 0 ((ji5) : Int).toNat), .agg #[.int .i64 1, .int .i64 0]] rfl (by (try simp only [List.map_toArray, List.map_cons, List.map_nil]); first | done | (simp only [hji5]; rfl) | rfl | (simp only [List.length_drop, List.length_take]; rfl)) ?_; (with_reducible refine (store_Append.calls (fun k_ => some k_ = (.slice Ao234 t338.length co234 : Value).ownBlock) _ _ t338 t341 t342 t343 t344 (a1.extract 0 ((ji5) : Int).toNat) 1 0 t345 t348 t349 t350 t351 t352 _ ?side1 A11.out).mono ?_); (case side1 => exact Kd.R_V (Kd.R_tight rfl (Kd.R_types (HO340.out) BK337.out (by decide)))); rintro e w242 ⟨v346, rfl, ho0, hb⟩; refine ⟨_, rfl, ?_⟩; have n0_ := aA (Kd.R_below (mR HO340.out) hb); have n1_ := aA (Kd.V_lower (Kd.V_mono (ok' := fun k_ => k_ ≠ gb337) ho0 (fun k_ hk_ => Or.elim hk_ (fun hs_ => ((Kd.R_types (HO340.out) BK337.out (by decide)).1 k_ hs_.symm).2) (fun hn_ => (Kd.freshB (g := gb337) (o := .cells #[.slice Ao234 t338.length co234, .int .i64 t341, .int .i64 t342, .int .i64 t343, .bool t344] 26 (0, 0)) (mK BK337.out) k_ hn_)))) (below_size (mD1 GE337.out))); have n2_ := aA (bB BK337.out hb); have n3_ := aA (below_step (mD1 GE337.out) hb); clear HO340 BK337 HB; have HO340 := n0_; have HO347 := n1_; have BK337 := n2_; have HB := n3_; clear n0_ n1_ n2_ n3_; (try clear hb); (try clear hb2); (try clear hk); (try clear hi); (try clear ho0)) | ((with_reducible refine gate_dst (N := 7) rfl ?_); refine box_event ?hg (N := 7) ?hd (cs := #[.slice none 0 0, .int .i64 0, .int .i64 0, .int .i64 0, .bool false]) (t := 26) ?hr ?_; (case hd => rfl); (case hg => rfl); (case hr => first | (go_simp; done) | (go_simp; rfl)); intro gb353 hg w243 hbox hb; have n0_ := aA (Kd.R_below (mR HO340.out) hb); have n1_ := aA (Kd.V_below (Kd.V_elderB (by (with_reducible repeat (first | apply Kd.V_alloc | apply Kd.V_drewN | apply Kd.V_drew)); exact HO347.out) gb353 (Nat.le_of_eq hg.symm)) hb); have n2_ := aA (bB BK337.out hb); have n3_ := aA (below_step (mD1 GE337.out) hb); have n4_ := aA (hbox); have n5_ := aA ((bZ hg (mD1 GE337.out))); have n6_ := aA ((bZ hg (mD1 GE337.out))); have n7_ := aA ((bL hg BK337.out)); have n8_ := aA ((bG hg BK337.out)); clear HO340 HO347 BK337 HB; have HO340 := n0_; have HO347 := n1_; have BK337 := n2_; have HB := n3_; have BK353 := n4_; have GW353 := n5_; have GE353 := n6_; have NB337_353 := n7_; have NB353_337 := n8_; clear n0_ n1_ n2_ n3_ n4_ n5_ n6_ n7_ n8_ hb hbox hg; obtain ⟨Ao244, co244, eo244⟩ := Kd.V_slice HO347.out; subst eo244; have hnb245 := NB353_337.out; have hnc245 := NB337_353.out; obtain ⟨hcz246_0, hcz246_1, hcz246_2, hcz246_3, hcz246_4⟩ := bC5 BK353.out; obtain ⟨hfz246_0, hfz246_1, hfz246_2, hfz246_3, hfz246_4⟩ := bF5 BK353.out) | ((with_reducible refine gate_store (t := 26) (p := 7) rfl ?_); refine store_event (t := 26) (p := 7) (v := ?vo_w247) (w1 := (((((w243.setCell ⟨gb353, 0, none⟩ (.slice Ao244 t345.length co244)).setCell ⟨gb353, 1, none⟩ (.int .i64 t348)).setCell ⟨gb353, 2, none⟩ (.int .i64 t349)).setCell ⟨gb353, 3, none⟩ (.int .i64 t350)).setCell ⟨gb353, 4, none⟩ (.bool t351))) ?hg ?ho ?hn ?hr ?_; (case ho => rfl); (case hg => rfl); (case hn => rfl); (case hr => first | (go_simp; done) | (go_simp; rfl)); intro w247 hw; have n0_ : Aside0 (Kd.R Kd.string 9 w247 w.heap.size (fun _ => True) (.slice Ao234 t338.length co234) t338) := ⟨(by rw [hw]; exact (by (with_reducible repeat (first | apply Kd.R_alloc | apply Kd.R_drewN | apply Kd.R_drew)); exact Kd.R_mono (rF 4 (rF 3 (rF 2 (rF 1 (rF 0 (Kd.R_types HO340.out BK353.out (by decide))))))) (fun _ hk => trivial)))⟩; have n1_ : Aside0 (Kd.V Kd.string 9 w247 w.heap.size (fun k_ => k_ ≠ gb337 ∧ k_ ≠ gb353) (.slice Ao244 t345.length co244) t345) := ⟨(by rw [hw]; exact (by (with_reducible repeat (first | apply Kd.V_alloc | apply Kd.V_drewN | apply Kd.V_drew)); exact Kd.V_mono (Kd.V_far (p := ⟨gb353, 4, none⟩) (Kd.V_far (p := ⟨gb353, 3, none⟩) (Kd.V_far (p := ⟨gb353, 2, none⟩) (Kd.V_far (p := ⟨gb353, 1, none⟩) (Kd.V_far (p := ⟨gb353, 0, none⟩) (Kd.V_mono HO347.out (fun k_ hk => (⟨hk, hk.2⟩ : _ ∧ k_ ≠ gb353))) (fun _ hk => hk.2) (.slice Ao244 t345.length co244)) (fun _ hk => hk.2) (.int .i64 t348)) (fun _ hk => hk.2) (.int .i64 t349)) (fun _ hk => hk.2) (.int .i64 t350)) (fun _ hk => hk.2) (.bool t351)) (fun _ hk => ⟨hk.1.1, hk.1.2⟩)))⟩; have n2_ : Aside0 (w247.heap[gb337]? = some (.cells #[.slice Ao234 t338.length co234, .int .i64 t341, .int .i64 t342, .int .i64 t343, .bool t344] 26 (0, 0))) := ⟨(by rw [hw]; exact (by (with_reducible repeat (first | refine blk_drewN ?_ _ | refine blk_drew ?_ | refine blk_alloc ?_ _)); refine blk_far ?_ NB337_353.out _; (with_reducible repeat (first | refine blk_drewN ?_ _ | refine blk_drew ?_ | refine blk_alloc ?_ _)); refine blk_far ?_ NB337_353.out _; (with_reducible repeat (first | refine blk_drewN ?_ _ | refine blk_drew ?_ | refine blk_alloc ?_ _)); refine blk_far ?_ NB337_353.out _; (with_reducible repeat (first | refine blk_drewN ?_ _ | refine blk_drew ?_ | refine blk_alloc ?_ _)); refine blk_far ?_ NB337_353.out _; (with_reducible repeat (first | refine blk_drewN ?_ _ | refine blk_drew ?_ | refine blk_alloc ?_ _)); refine blk_far ?_ NB337_353.out _; (with_reducible repeat (first | refine blk_drewN ?_ _ | refine blk_drew ?_ | refine blk_alloc ?_ _)); exact BK337.out))⟩; have n3_ : Aside0 (w247.heap[gb353]? = some (.cells #[.slice Ao244 t345.length co244, .int .i64 t348, .int .i64 t349, .int .i64 t350, .bool t351] 26 (0, 0))) := ⟨(by rw [hw]; exact (by (with_reducible repeat (first | refine blk_drewN ?_ _ | refine blk_drew ?_ | refine blk_alloc ?_ _)); have h_ := BK353.out; exact pK 4 (pK 3 (pK 2 (pK 1 (pK 0 (h_)))))))⟩; have n4_ : Aside0 (Below w.heap.size w w247) := ⟨(by rw [hw]; exact (mD2 GE337.out GE353.out))⟩; clear hw HO340 HO347 BK337 BK353 HB; have HO340 := n0_; have HO347 := n1_; have BK337 := n2_; have BK353 := n3_; have HB := n4_; clear n0_ n1_ n2_ n3_ n4_; obtain ⟨hcz248_0, hcz248_1, hcz248_2, hcz248_3, hcz248_4⟩ := bC5 BK337.out; obtain ⟨hfz248_0, hfz248_1, hfz248_2, hfz248_3, hfz248_4⟩ := bF5 BK337.out) | ((with_reducible refine gate_callee (f := 21) rfl ?_); refine goesL_ (some 36) rfl rfl Try.func21 (by kernel_rfl) rfl #[.agg #[.slice Ao234 t338.length co234, .int .i64 t341, .int .i64 t342, .int .i64 t343, .bool t344], .string (a2.extract 0 ((ji8) : Int).toNat), .agg #[.int .i64 0, .int .i64 0]] rfl (by (try simp only [List.map_toArray, List.map_cons, List.map_nil]); first | done | (simp only [hji8]; rfl) | rfl | (simp only [List.length_drop, List.length_take]; rfl)) ?_; (with_reducible refine (store_Append.calls (fun k_ => some k_ = (.slice Ao234 t338.length co234 : Value).ownBlock) _ _ t338 t341 t342 t343 t344 (a2.extract 0 ((ji8) : Int).toNat) 0 0 t354 t357 t358 t359 t360 t361 _ ?side1 A12.out).mono ?_); (case side1 => exact Kd.R_V (Kd.R_tight rfl (Kd.R_types (Kd.R_types (HO340.out) BK337.out (by decide)) BK353.out (by decide)))); rintro e w249 ⟨v355, rfl, ho0, hb⟩; refine ⟨_, rfl, ?_⟩; have n0_ := aA (Kd.R_below (mR HO340.out) hb); have n1_ := aA (Kd.V_below (by (with_reducible repeat (first | apply Kd.V_alloc | apply Kd.V_drewN | apply Kd.V_drew)); exact HO347.out) hb); have n2_ := aA (Kd.V_lower (Kd.V_mono (ok' := fun k_ => k_ ≠ gb337 ∧ k_ ≠ gb353) ho0 (fun k_ hk_ => ⟨Or.elim hk_ (fun hs_ => ((Kd.R_types (Kd.R_types (HO340.out) BK337.out (by decide)) BK353.out (by decide)).1 k_ hs_.symm).1.2) (fun hn_ => (Kd.freshB (g := gb337) (o := .cells #[.slice Ao234 t338.length co234, .int .i64 t341, .int .i64 t342, .int .i64 t343, .bool t344] 26 (0, 0)) (mK BK337.out) k_ hn_)), Or.elim hk_ (fun hs_ => ((Kd.R_types (Kd.R_types (HO340.out) BK337.out (by decide)) BK353.out (by decide)).1 k_ hs_.symm).2) (fun hn_ => (Kd.freshB (g := gb353) (o := .cells #[.slice Ao244 t345.length co244, .int .i64 t348, .int .i64 t349, .int .i64 t350, .bool t351] 26 (0, 0)) (mK BK353.out) k_ hn_))⟩)) (below_size (mD2 GE337.out GE353.out))); have n3_ := aA (bB BK337.out hb); have n4_ := aA (bB BK353.out hb); have n5_ := aA (below_step (mD2 GE337.out GE353.out) hb); clear HO340 HO347 BK337 BK353 HB; have HO340 := n0_; have HO347 := n1_; have HO356 := n2_; have BK337 := n3_; have BK353 := n4_; have HB := n5_; clear n0_ n1_ n2_ n3_ n4_ n5_; (try clear hb); (try clear hb2); (try clear hk); (try clear hi); (try clear ho0)) | ((with_reducible refine gate_dst (N := 9) rfl ?_); refine box_event ?hg (N := 9) ?hd (cs := #[.slice none 0 0, .int .i64 0, .int .i64 0, .int .i64 0, .bool false]) (t := 26) ?hr ?_; (case hd => rfl); (case hg => rfl); (case hr => first | (go_simp; done) | (go_simp; rfl)); intro gb362 hg w250 hbox hb; have n0_ := aA (Kd.R_below (mR HO340.out) hb); have n1_ := aA (Kd.V_below (Kd.V_elderB (by (with_reducible repeat (first | apply Kd.V_alloc | apply Kd.V_drewN | apply Kd.V_drew)); exact HO347.out) gb362 (Nat.le_of_eq hg.symm)) hb); have n2_ := aA (Kd.V_below (Kd.V_elderB (by (with_reducible repeat (first | apply Kd.V_alloc | apply Kd.V_drewN | apply Kd.V_drew)); exact HO356.out) gb362 (Nat.le_of_eq hg.symm)) hb); have n3_ := aA (bB BK337.out hb); have n4_ := aA (bB BK353.out hb); have n5_ := aA (below_step (mD2 GE337.out GE353.out) hb); have n6_ := aA (hbox); have n7_ := aA ((bZ hg (mD2 GE337.out GE353.out))); have n8_ := aA ((bZ hg (mD2 GE337.out GE353.out))); have n9_ := aA ((bL hg BK337.out)); have n10_ := aA ((bG hg BK337.out)); have n11_ := aA ((bL hg BK353.out)); have n12_ := aA ((bG hg BK353.out)); clear HO340 HO347 HO356 BK337 BK353 HB; have HO340 := n0_; have HO347 := n1_; have HO356 := n2_; have BK337 := n3_; have BK353 := n4_; have HB := n5_; have BK362 := n6_; have GW362 := n7_; have GE362 := n8_; have NB337_362 := n9_; have NB362_337 := n10_; have NB353_362 := n11_; have NB362_353 := n12_; clear n0_ n1_ n2_ n3_ n4_ n5_ n6_ n7_ n8_ n9_ n10_ n11_ n12_ hb hbox hg; obtain ⟨Ao251, co251, eo251⟩ := Kd.V_slice HO356.out; subst eo251; have hnb252 := NB362_337.out; have hnc252 := NB337_362.out; have hnb253 := NB362_353.out; have hnc253 := NB353_362.out; obtain ⟨hcz254_0, hcz254_1, hcz254_2, hcz254_3, hcz254_4⟩ := bC5 BK362.out; obtain ⟨hfz254_0, hfz254_1, hfz254_2, hfz254_3, hfz254_4⟩ := bF5 BK362.out) | ((with_reducible refine gate_callee (f := 15) rfl ?_); refine goesL_ (some 41) rfl rfl Try.func15 (by kernel_rfl) rfl #[] rfl mS ?_; (with_reducible refine (foghornlaw04_alive.calls k  true _ A201.out).mono ?_); rintro e w255 ⟨rfl, hb⟩; refine ⟨_, rfl, ?_⟩; have n0_ := aA (Kd.R_below (by (with_reducible repeat (first | apply Kd.R_alloc | apply Kd.R_drewN | apply Kd.R_drew)); exact (Kd.R_mono (rF 4 (rF 3 (rF 2 (rF 1 (rF 0 (Kd.R_types HO340.out BK362.out (by decide))))))) (fun _ h_ => h_.1))) hb); have n1_ := aA (Kd.V_below (by (with_reducible repeat (first | apply Kd.V_alloc | apply Kd.V_drewN | apply Kd.V_drew)); exact (Kd.V_mono (Kd.V_far (p := ⟨gb362, 4, none⟩) (Kd.V_far (p := ⟨gb362, 3, none⟩) (Kd.V_far (p := ⟨gb362, 2, none⟩) (Kd.V_far (p := ⟨gb362, 1, none⟩) (Kd.V_far (p := ⟨gb362, 0, none⟩) (Kd.V_mono HO347.out (fun k_ hk => (⟨hk, hk.2⟩ : _ ∧ k_ ≠ gb362))) (fun _ hk => hk.2) (.slice Ao251 t354.length co251)) (fun _ hk => hk.2) (.int .i64 t357)) (fun _ hk => hk.2) (.int .i64 t358)) (fun _ hk => hk.2) (.int .i64 t359)) (fun _ hk => hk.2) (.bool t360)) (fun _ h_ => h_.1))) hb); have n2_ := aA (Kd.V_below (by (with_reducible repeat (first | apply Kd.V_alloc | apply Kd.V_drewN | apply Kd.V_drew)); exact (Kd.V_mono (Kd.V_far (p := ⟨gb362, 4, none⟩) (Kd.V_far (p := ⟨gb362, 3, none⟩) (Kd.V_far (p := ⟨gb362, 2, none⟩) (Kd.V_far (p := ⟨gb362, 1, none⟩) (Kd.V_far (p := ⟨gb362, 0, none⟩) (Kd.V_mono HO356.out (fun k_ hk => (⟨hk, hk.2⟩ : _ ∧ k_ ≠ gb362))) (fun _ hk => hk.2) (.slice Ao251 t354.length co251)) (fun _ hk => hk.2) (.int .i64 t357)) (fun _ hk => hk.2) (.int .i64 t358)) (fun _ hk => hk.2) (.int .i64 t359)) (fun _ hk => hk.2) (.bool t360)) (fun _ h_ => h_.1))) hb); have n3_ := aA (blk_below (g := gb337) (o := .cells #[.slice Ao234 t338.length co234, .int .i64 t341, .int .i64 t342, .int .i64 t343, .bool t344] 26 (0, 0)) (by (with_reducible repeat (first | refine blk_drewN ?_ _ | refine blk_drew ?_ | refine blk_alloc ?_ _)); refine blk_far ?_ NB337_362.out _; (with_reducible repeat (first | refine blk_drewN ?_ _ | refine blk_drew ?_ | refine blk_alloc ?_ _)); refine blk_far ?_ NB337_362.out _; (with_reducible repeat (first | refine blk_drewN ?_ _ | refine blk_drew ?_ | refine blk_alloc ?_ _)); refine blk_far ?_ NB337_362.out _; (with_reducible repeat (first | refine blk_drewN ?_ _ | refine blk_drew ?_ | refine blk_alloc ?_ _)); refine blk_far ?_ NB337_362.out _; (with_reducible repeat (first | refine blk_drewN ?_ _ | refine blk_drew ?_ | refine blk_alloc ?_ _)); refine blk_far ?_ NB337_362.out _; (with_reducible repeat (first | refine blk_drewN ?_ _ | refine blk_drew ?_ | refine blk_alloc ?_ _)); exact BK337.out) hb); have n4_ := aA (blk_below (g := gb353) (o := .cells #[.slice Ao244 t345.length co244, .int .i64 t348, .int .i64 t349, .int .i64 t350, .bool t351] 26 (0, 0)) (by (with_reducible repeat (first | refine blk_drewN ?_ _ | refine blk_drew ?_ | refine blk_alloc ?_ _)); refine blk_far ?_ NB353_362.out _; (with_reducible repeat (first | refine blk_drewN ?_ _ | refine blk_drew ?_ | refine blk_alloc ?_ _)); refine blk_far ?_ NB353_362.out _; (with_reducible repeat (first | refine blk_drewN ?_ _ | refine blk_drew ?_ | refine blk_alloc ?_ _)); refine blk_far ?_ NB353_362.out _; (with_reducible repeat (first | refine blk_drewN ?_ _ | refine blk_drew ?_ | refine blk_alloc ?_ _)); refine blk_far ?_ NB353_362.out _; (with_reducible repeat (first | refine blk_drewN ?_ _ | refine blk_drew ?_ | refine blk_alloc ?_ _)); refine blk_far ?_ NB353_362.out _; (with_reducible repeat (first | refine blk_drewN ?_ _ | refine blk_drew ?_ | refine blk_alloc ?_ _)); exact BK353.out) hb); have n5_ := aA (blk_below (g := gb362) (o := .cells #[.slice Ao251 t354.length co251, .int .i64 t357, .int .i64 t358, .int .i64 t359, .bool t360] 26 (0, 0)) (by (with_reducible repeat (first | refine blk_drewN ?_ _ | refine blk_drew ?_ | refine blk_alloc ?_ _)); have h_ := BK362.out; exact pK 4 (pK 3 (pK 2 (pK 1 (pK 0 (h_)))))) hb); have n6_ := aA (below_step (mD3 GE337.out GE353.out GE362.out) hb); clear HO340 HO347 HO356 BK337 BK353 BK362 HB; have HO340 := n0_; have HO347 := n1_; have HO356 := n2_; have BK337 := n3_; have BK353 := n4_; have BK362 := n5_; have HB := n6_; clear n0_ n1_ n2_ n3_ n4_ n5_ n6_; (try clear hb); (try clear hb2); (try clear hk); (try clear hi); obtain ⟨hcz256_0, hcz256_1, hcz256_2, hcz256_3, hcz256_4⟩ := bC5 BK353.out; obtain ⟨hfz256_0, hfz256_1, hfz256_2, hfz256_3, hfz256_4⟩ := bF5 BK353.out) | (go_at_call 16; (refine (foghornref04_Same.calls k _ _ t345 t348 t349 t350 t351 _ _ ([] : List ByteArray) 0 0 0 false t364 _ ?side1 ?side2 ?side3 ?side4 A230.out).mono ?_); (case side1 => exact mC ((Kd.V_reads' HO347.out).2.2)); (case side2 => exact (Kd.V_reads' HO347.out).2.1); (case side3 => exact Kd.C_nil _ _); (case side4 => exact Nat.le_refl _); rintro e w257 ⟨rfl, hb⟩; have n0_ := aA (Kd.R_below (mR HO340.out) hb); have n1_ := aA (Kd.V_below (by (with_reducible repeat (first | apply Kd.V_alloc | apply Kd.V_drewN | apply Kd.V_drew)); exact HO347.out) hb); have n2_ := aA (Kd.V_below (by (with_reducible repeat (first | apply Kd.V_alloc | apply Kd.V_drewN | apply Kd.V_drew)); exact HO356.out) hb); have n3_ := aA (bB BK337.out hb); have n4_ := aA (bB BK353.out hb); have n5_ := aA (bB BK362.out hb); have n6_ := aA (below_step (mD3 GE337.out GE353.out GE362.out) hb); clear HO340 HO347 HO356 BK337 BK353 BK362 HB; have HO340 := n0_; have HO347 := n1_; have HO356 := n2_; have BK337 := n3_; have BK353 := n4_; have BK362 := n5_; have HB := n6_; clear n0_ n1_ n2_ n3_ n4_ n5_ n6_; (try clear hb); (try clear hb2); (try clear hk); (try clear hi)))
         go_ret
         exact ⟨by first | rfl | (simp [errW_none, errW_some] <;> rfl) | (simp only [← hji5, ← hji8]; first | rfl | (simp [errW_none, errW_some] <;> rfl)) | (simp [*, errW_none, errW_some] <;> rfl), by repeat (first | (with_reducible first | exact HB.out | apply below_alloc | apply pw_below_drewN | apply below_drew1 | refine below_set ?_ GE337.out | refine below_set ?_ GE353.out | refine below_set ?_ GE362.out) | exact HB.out)⟩
       ·rw [if_neg c203] at H
        have c203b0 : (t352 == t361) = false := beq_eq_false_iff_ne.mpr c203
        have c203b1 : (t352 != t361) = true := bne_iff_ne.mpr c203
        exact absurd (Option.some.inj H) (by rw [hrt_]; decide)
      ·replace c202 := Bool.eq_false_iff.mpr c202
       subst c202
       have H1 : (some false) = some r := by rw [if_neg (show ¬ (false = true) by decide)] at H; exact H
       clear H
       have H := H1
       clear H1
       exact absurd (Option.some.inj H) (by rw [hrt_]; decide)
    ·rw [if_neg c10] at H
     exact absurd H (by simp)
   ·rw [if_neg c9] at H
    exact absurd H (by simp)
  ·rw [if_neg c7] at H
   exact absurd H (by simp)
 ·rw [if_neg c6] at H
  exact absurd H (by simp)
end Go.Proofs.YtopaddpclipnjaaQ.P
namespace Go.Proofs.YtopaddpclipnjaaQ.P
open Go.RowKit Go.Proofs.YtopaddpclipnjaaW.PrintWords Go.Proofs.YtopaddpclipnjaaW.PrintLast Go.Proofs.YtopaddpclipnjaaW.PrintMore
attribute [local go_sem] max2_int min2_int max_two min_two max_three min_three max_four min_four
def foghornref02_Tear.l0 : Nat → Int → ByteArray → Int → List ByteArray → List ByteArray → Int → Int → Option (List ByteArray)
 | 0, _, _, _, _, _, _, _ => none
 | k + 1, x1, x2, x3, x9, x14, x15, x16 => if x16 < x15 then (if 0 ≤ x16 then (if x16 < (x14.length : Int) then (if x16 = x1 then (if 0 ≤ x3 then (if x3 ≤ (x2.size : Int) then (if x3 ≤ ((rdOf ByteArray.empty x14 x16).size : Int) then (if (x2.extract 0 (x3 : Int).toNat).size + ((rdOf ByteArray.empty x14 x16).extract (x3 : Int).toNat (rdOf ByteArray.empty x14 x16).size).size ≤ 9223372036854775807 then (if x9.length < 8796093022208 then (foghornref02_Tear.l0 k x1 x2 x3 (x9 ++ [(x2.extract 0 (x3 : Int).toNat) ++ ((rdOf ByteArray.empty x14 x16).extract (x3 : Int).toNat (rdOf ByteArray.empty x14 x16).size)]) x14 x15 (wrap64 (x16 + 1))) else (none)) else (none)) else (none)) else (none)) else (none)) else (if x9.length < 8796093022208 then (foghornref02_Tear.l0 k x1 x2 x3 (x9 ++ [rdOf ByteArray.empty x14 x16]) x14 x15 (wrap64 (x16 + 1))) else (none))) else (none)) else (none)) else (some x9)
def foghornref02_Tear.f (k : Nat) (l0_0 : List ByteArray) (a1 : Int) (a2 : ByteArray) (a3 : Int) : Option (List ByteArray) := foghornref02_Tear.l0 k a1 a2 a3 (([] : List ByteArray)) l0_0 (l0_0.length : Int) 0
theorem foghornref02_Tear.mono_l : ∀ k, (∀ y0 y1 y2 y3 y4 y5 y6, LeO (foghornref02_Tear.l0 k y0 y1 y2 y3 y4 y5 y6) (foghornref02_Tear.l0 (k + 1) y0 y1 y2 y3 y4 y5 y6))
 | 0 => fun _ _ _ _ _ _ _ r h => by simp [foghornref02_Tear.l0] at h
 | k + 1 => by
  have ih0 := foghornref02_Tear.mono_l k
  ·intro y0 y1 y2 y3 y4 y5 y6
   unfold foghornref02_Tear.l0
   repeat' first
   | (with_reducible exact ih0 _ _ _ _ _ _ _)
   | (with_reducible exact LeO.refl _)
   | (with_reducible exact LeO.none _)
   | (with_reducible refine LeO.ite ?_ ?_)
   | (with_reducible refine LeO.bind ?_ (fun _ => ?_))
   | exact ih0 _ _ _ _ _ _ _
   | exact LeO.none _
   | refine LeO.ite ?_ ?_
   | refine LeO.bind ?_ (fun _ => ?_)
theorem foghornref02_Tear.mono : ∀ a0 a1 a2 a3 k, LeO (foghornref02_Tear.f k a0 a1 a2 a3) (foghornref02_Tear.f (k + 1) a0 a1 a2 a3) := by
 intro a0 a1 a2 a3 k
 have ih0 := foghornref02_Tear.mono_l k
 unfold foghornref02_Tear.f
 repeat' first
   | (with_reducible exact ih0 _ _ _ _ _ _ _)
   | (with_reducible exact LeO.refl _)
   | (with_reducible exact LeO.none _)
   | (with_reducible refine LeO.ite ?_ ?_)
   | (with_reducible refine LeO.bind ?_ (fun _ => ?_))
   | exact ih0 _ _ _ _ _ _ _
   | exact LeO.none _
   | refine LeO.ite ?_ ?_
   | refine LeO.bind ?_ (fun _ => ?_)
end Go.Proofs.YtopaddpclipnjaaQ.P
namespace Go.Proofs.YtopaddpclipnjaaQ.P
open Go.RowKit Go.Proofs.YtopaddpclipnjaaW.PrintWords Go.Proofs.YtopaddpclipnjaaW.PrintLast Go.Proofs.YtopaddpclipnjaaW.PrintMore
attribute [local go_sem] max2_int min2_int max_two min_two max_three min_three max_four min_four
def foghornref02_Write.f (k : Nat) (l0_0 : List ByteArray) (a1 : Int) (a2 : ByteArray) : Option (List ByteArray) := (foghornref02_Tear.f k l0_0 a1 a2 128).bind fun t225 => (some t225)
theorem foghornref02_Write.mono : ∀ a0 a1 a2 k, LeO (foghornref02_Write.f k a0 a1 a2) (foghornref02_Write.f (k + 1) a0 a1 a2) := by
 intro a0 a1 a2 k
 unfold foghornref02_Write.f
 repeat' first
   | (with_reducible exact foghornref02_Tear.mono _ _ _ _ _)
   | (with_reducible exact LeO.refl _)
   | (with_reducible exact LeO.none _)
   | (with_reducible refine LeO.ite ?_ ?_)
   | (with_reducible refine LeO.bind ?_ (fun _ => ?_))
   | exact foghornref02_Tear.mono _ _ _ _ _
   | exact LeO.none _
   | refine LeO.ite ?_ ?_
   | refine LeO.bind ?_ (fun _ => ?_)
end Go.Proofs.YtopaddpclipnjaaQ.P
namespace Go.Proofs.YtopaddpclipnjaaQ.P
open Go.RowKit Go.Proofs.YtopaddpclipnjaaW.PrintWords Go.Proofs.YtopaddpclipnjaaW.PrintLast Go.Proofs.YtopaddpclipnjaaW.PrintMore
attribute [local go_sem] max2_int min2_int max_two min_two max_three min_three max_four min_four
def foghornref02_Zeros.l0 : Nat → Int → ByteArray → Int → Option (ByteArray)
 | 0, _, _, _ => none
 | k + 1, x0, x3, x4 => if x4 < x0 then (if x3.size + 1 ≤ 9223372036854775807 then (foghornref02_Zeros.l0 k x0 (x3 ++ (⟨#[0]⟩ : ByteArray)) (wrap64 (x4 + 1))) else (none)) else (some x3)
def foghornref02_Zeros.f (k : Nat) (a0 : Int) : Option (ByteArray) := foghornref02_Zeros.l0 k a0 (⟨#[]⟩ : ByteArray) 0
theorem foghornref02_Zeros.mono_l : ∀ k, (∀ y0 y1 y2, LeO (foghornref02_Zeros.l0 k y0 y1 y2) (foghornref02_Zeros.l0 (k + 1) y0 y1 y2))
 | 0 => fun _ _ _ r h => by simp [foghornref02_Zeros.l0] at h
 | k + 1 => by
  have ih0 := foghornref02_Zeros.mono_l k
  ·intro y0 y1 y2
   unfold foghornref02_Zeros.l0
   repeat' first
   | (with_reducible exact ih0 _ _ _)
   | (with_reducible exact LeO.refl _)
   | (with_reducible exact LeO.none _)
   | (with_reducible refine LeO.ite ?_ ?_)
   | (with_reducible refine LeO.bind ?_ (fun _ => ?_))
   | exact ih0 _ _ _
   | exact LeO.none _
   | refine LeO.ite ?_ ?_
   | refine LeO.bind ?_ (fun _ => ?_)
theorem foghornref02_Zeros.mono : ∀ a0 k, LeO (foghornref02_Zeros.f k a0) (foghornref02_Zeros.f (k + 1) a0) := by
 intro a0 k
 have ih0 := foghornref02_Zeros.mono_l k
 unfold foghornref02_Zeros.f
 repeat' first
   | (with_reducible exact ih0 _ _ _)
   | (with_reducible exact LeO.refl _)
   | (with_reducible exact LeO.none _)
   | (with_reducible refine LeO.ite ?_ ?_)
   | (with_reducible refine LeO.bind ?_ (fun _ => ?_))
   | exact ih0 _ _ _
   | exact LeO.none _
   | refine LeO.ite ?_ ?_
   | refine LeO.bind ?_ (fun _ => ?_)
end Go.Proofs.YtopaddpclipnjaaQ.P
namespace Go.Proofs.YtopaddpclipnjaaQ.P
open Go.RowKit Go.Proofs.YtopaddpclipnjaaW.PrintWords Go.Proofs.YtopaddpclipnjaaW.PrintLast Go.Proofs.YtopaddpclipnjaaW.PrintMore
attribute [local go_sem] max2_int min2_int max_two min_two max_three min_three max_four min_four
def foghornref02_New.l0 : Nat → Int → Int → List ByteArray → Option (List ByteArray)
 | 0, _, _, _ => none
 | k + 1, x0, x4, x230000 => if x4 < x0 then ((foghornref02_Zeros.f k 128).bind fun t230 => (if x230000.length < 8796093022208 then (foghornref02_New.l0 k x0 (wrap64 (x4 + 1)) (x230000 ++ [t230])) else (none))) else (some x230000)
def foghornref02_New.f (k : Nat) (a0 : Int) : Option (List ByteArray) := foghornref02_New.l0 k a0 0 ([] : List ByteArray)
theorem foghornref02_New.mono_l : ∀ k, (∀ y0 y1 y2, LeO (foghornref02_New.l0 k y0 y1 y2) (foghornref02_New.l0 (k + 1) y0 y1 y2))
 | 0 => fun _ _ _ r h => by simp [foghornref02_New.l0] at h
 | k + 1 => by
  have ih0 := foghornref02_New.mono_l k
  ·intro y0 y1 y2
   unfold foghornref02_New.l0
   repeat' first
   | (with_reducible exact ih0 _ _ _)
   | (with_reducible exact foghornref02_Zeros.mono _ _)
   | (with_reducible exact LeO.refl _)
   | (with_reducible exact LeO.none _)
   | (with_reducible refine LeO.ite ?_ ?_)
   | (with_reducible refine LeO.bind ?_ (fun _ => ?_))
   | exact ih0 _ _ _
   | exact foghornref02_Zeros.mono _ _
   | exact LeO.none _
   | refine LeO.ite ?_ ?_
   | refine LeO.bind ?_ (fun _ => ?_)
theorem foghornref02_New.mono : ∀ a0 k, LeO (foghornref02_New.f k a0) (foghornref02_New.f (k + 1) a0) := by
 intro a0 k
 have ih0 := foghornref02_New.mono_l k
 unfold foghornref02_New.f
 repeat' first
   | (with_reducible exact ih0 _ _ _)
   | (with_reducible exact foghornref02_Zeros.mono _ _)
   | (with_reducible exact LeO.refl _)
   | (with_reducible exact LeO.none _)
   | (with_reducible refine LeO.ite ?_ ?_)
   | (with_reducible refine LeO.bind ?_ (fun _ => ?_))
   | exact ih0 _ _ _
   | exact foghornref02_Zeros.mono _ _
   | exact LeO.none _
   | refine LeO.ite ?_ ?_
   | refine LeO.bind ?_ (fun _ => ?_)
end Go.Proofs.YtopaddpclipnjaaQ.P
namespace Go.Proofs.YtopaddpclipnjaaQ.P
open Go.RowKit Go.Proofs.YtopaddpclipnjaaW.PrintWords Go.Proofs.YtopaddpclipnjaaW.PrintLast Go.Proofs.YtopaddpclipnjaaW.PrintMore
attribute [local go_sem] max2_int min2_int max_two min_two max_three min_three max_four min_four
def foghornref04_New.f (k : Nat) (a0 : Int) : Option (List ByteArray × Int × Int × Int × Bool) := (foghornref02_New.f k a0).bind fun t235 => ((foghornref03_Seal.f 1 0 (⟨#[]⟩ : ByteArray)).bind fun t238 => ((foghornref02_Write.f k t235 1 t238).bind fun t239 => (some (t239, 1, 0, 1, false))))
theorem foghornref04_New.mono : ∀ a0 k, LeO (foghornref04_New.f k a0) (foghornref04_New.f (k + 1) a0) := by
 intro a0 k
 unfold foghornref04_New.f
 repeat' first
   | (with_reducible exact foghornref02_New.mono _ _)
   | (with_reducible exact foghornref02_Write.mono _ _ _ _)
   | (with_reducible exact LeO.refl _)
   | (with_reducible exact LeO.none _)
   | (with_reducible refine LeO.ite ?_ ?_)
   | (with_reducible refine LeO.bind ?_ (fun _ => ?_))
   | exact foghornref02_New.mono _ _
   | exact foghornref02_Write.mono _ _ _ _
   | exact LeO.none _
   | refine LeO.ite ?_ ?_
   | refine LeO.bind ?_ (fun _ => ?_)
end Go.Proofs.YtopaddpclipnjaaQ.P
namespace Go.Proofs.YtopaddpclipnjaaQ.P
open Go.RowKit Go.Proofs.YtopaddpclipnjaaW.PrintWords Go.Proofs.YtopaddpclipnjaaW.PrintLast Go.Proofs.YtopaddpclipnjaaW.PrintMore
attribute [local go_sem] max2_int min2_int max_two min_two max_three min_three max_four min_four
mutual
def foghornlaw04_StoreBoots.j0 : Nat → Int → Int → List ByteArray → Int → Bool → List ByteArray → List ByteArray → Int → Int → Int → Bool → List ByteArray → Int → Int → Int → Bool → Int → Int → Int → Bool → Option (Bool)
 | 0, _, _, _, _, _, _, _, _, _, _, _, _, _, _, _, _, _, _, _, _ => none
 | k + 1, x0, x8, x10, x11, x42, x276000, x295000, x295001, x295002, x295003, x295004, x307000, x307001, x307002, x307003, x307004, x308001, x308002, x308003, x308004 => if x42 = true then (some false) else (if x0 < 10 then (foghornlaw04_StoreBoots.j1 k x0 x8 x10 x11 true x276000 x295000 x295001 x295002 x295003 x295004 x307000 x307001 x307002 x307003 x307004 x308001 x308002 x308003 x308004) else (if x0 > 130 then (foghornlaw04_StoreBoots.j1 k x0 x8 x10 x11 true x276000 x295000 x295001 x295002 x295003 x295004 x307000 x307001 x307002 x307003 x307004 x308001 x308002 x308003 x308004) else (foghornlaw04_StoreBoots.j1 k x0 x8 x10 x11 ((Int.tmod x0 2) != 0) x276000 x295000 x295001 x295002 x295003 x295004 x307000 x307001 x307002 x307003 x307004 x308001 x308002 x308003 x308004)))
def foghornlaw04_StoreBoots.j1 : Nat → Int → Int → List ByteArray → Int → Bool → List ByteArray → List ByteArray → Int → Int → Int → Bool → List ByteArray → Int → Int → Int → Bool → Int → Int → Int → Bool → Option (Bool)
 | 0, _, _, _, _, _, _, _, _, _, _, _, _, _, _, _, _, _, _, _, _ => none
 | k + 1, x0, x8, x10, x11, x53, x276000, x295000, x295001, x295002, x295003, x295004, x307000, x307001, x307002, x307003, x307004, x308001, x308002, x308003, x308004 => if x53 = true then (if x8 = 2 then ((foghornref04_Same.f k x295000 x295001 x295002 x295003 x295004 ([] : List ByteArray) x308001 x308002 x308003 x308004).bind fun t311 => (if t311 = true then (foghornlaw04_StoreBoots.j2 k x10 x11 x276000 x307000 x307001 x307002 x307003 x307004 x308001 x308002 x308003 x308004) else (some false))) else (some false)) else (if x8 = 0 then ((foghornref04_New.f k x0).bind fun bt312 => ((foghornref04_Same.f k x295000 x295001 x295002 x295003 x295004 bt312.1 bt312.2.1 bt312.2.2.1 bt312.2.2.2.1 bt312.2.2.2.2).bind fun t319 => (if t319 = true then (foghornlaw04_StoreBoots.j2 k x10 x11 x276000 x307000 x307001 x307002 x307003 x307004 x308001 x308002 x308003 x308004) else (some false)))) else (some false))
def foghornlaw04_StoreBoots.j2 : Nat → List ByteArray → Int → List ByteArray → List ByteArray → Int → Int → Int → Bool → Int → Int → Int → Bool → Option (Bool)
 | 0, _, _, _, _, _, _, _, _, _, _, _, _ => none
 | k + 1, x10, x11, x276000, x307000, x307001, x307002, x307003, x307004, x308001, x308002, x308003, x308004 => (foghornref04_Log.f k x276000).bind fun t320 => (if t320 = true then ((foghornref04_Boot.f k x276000).bind fun bt322 => (if bt322.2.2.2.2.2.2 = true then (if x11 = 0 then ((foghornref04_Same.f k x307000 x307001 x307002 x307003 x307004 bt322.1 bt322.2.1 bt322.2.2.1 bt322.2.2.2.1 bt322.2.2.2.2.1).bind fun t334 => (if t334 = true then ((foghornref04_Texts.f k x10 bt322.2.2.2.2.2.1).bind fun t335 => (some t335)) else (some false))) else (some false)) else (if x11 = 4 then (if (x10.length : Int) = 0 then ((foghornref04_Same.f k x307000 x307001 x307002 x307003 x307004 ([] : List ByteArray) x308001 x308002 x308003 x308004).bind fun t336 => (some t336)) else (some false)) else (some false)))) else (if x11 = 1 then (if (x10.length : Int) = 0 then ((foghornref04_Same.f k x307000 x307001 x307002 x307003 x307004 ([] : List ByteArray) x308001 x308002 x308003 x308004).bind fun t321 => (some t321)) else (some false)) else (some false)))
end
theorem foghornlaw04_StoreBoots.mono_l : ∀ k, (∀ y0 y1 y2 y3 y4 y5 y6 y7 y8 y9 y10 y11 y12 y13 y14 y15 y16 y17 y18 y19, LeO (foghornlaw04_StoreBoots.j0 k y0 y1 y2 y3 y4 y5 y6 y7 y8 y9 y10 y11 y12 y13 y14 y15 y16 y17 y18 y19) (foghornlaw04_StoreBoots.j0 (k + 1) y0 y1 y2 y3 y4 y5 y6 y7 y8 y9 y10 y11 y12 y13 y14 y15 y16 y17 y18 y19)) ∧ (∀ y0 y1 y2 y3 y4 y5 y6 y7 y8 y9 y10 y11 y12 y13 y14 y15 y16 y17 y18 y19, LeO (foghornlaw04_StoreBoots.j1 k y0 y1 y2 y3 y4 y5 y6 y7 y8 y9 y10 y11 y12 y13 y14 y15 y16 y17 y18 y19) (foghornlaw04_StoreBoots.j1 (k + 1) y0 y1 y2 y3 y4 y5 y6 y7 y8 y9 y10 y11 y12 y13 y14 y15 y16 y17 y18 y19)) ∧ (∀ y0 y1 y2 y3 y4 y5 y6 y7 y8 y9 y10 y11, LeO (foghornlaw04_StoreBoots.j2 k y0 y1 y2 y3 y4 y5 y6 y7 y8 y9 y10 y11) (foghornlaw04_StoreBoots.j2 (k + 1) y0 y1 y2 y3 y4 y5 y6 y7 y8 y9 y10 y11))
 | 0 => ⟨fun _ _ _ _ _ _ _ _ _ _ _ _ _ _ _ _ _ _ _ _ r h => by simp [foghornlaw04_StoreBoots.j0] at h, fun _ _ _ _ _ _ _ _ _ _ _ _ _ _ _ _ _ _ _ _ r h => by simp [foghornlaw04_StoreBoots.j1] at h, fun _ _ _ _ _ _ _ _ _ _ _ _ r h => by simp [foghornlaw04_StoreBoots.j2] at h⟩
 | k + 1 => by
  obtain ⟨ih0, ih1, ih2⟩ := foghornlaw04_StoreBoots.mono_l k
  refine ⟨?_, ?_, ?_⟩
  ·intro y0 y1 y2 y3 y4 y5 y6 y7 y8 y9 y10 y11 y12 y13 y14 y15 y16 y17 y18 y19
   unfold foghornlaw04_StoreBoots.j0
   repeat' first
   | (with_reducible exact ih0 _ _ _ _ _ _ _ _ _ _ _ _ _ _ _ _ _ _ _ _)
   | (with_reducible exact ih1 _ _ _ _ _ _ _ _ _ _ _ _ _ _ _ _ _ _ _ _)
   | (with_reducible exact ih2 _ _ _ _ _ _ _ _ _ _ _ _)
   | (with_reducible exact foghornlaw04_alive.mono _)
   | (with_reducible exact foghornlaw04_cut.mono _ _ _ _ _ _)
   | (with_reducible exact foghornlaw04_few.mono _ _ _)
   | (with_reducible exact foghornref04_Boot.mono _ _)
   | (with_reducible exact foghornref04_Log.mono _ _)
   | (with_reducible exact foghornref04_New.mono _ _)
   | (with_reducible exact foghornref04_Right.mono _ _ _ _ _ _)
   | (with_reducible exact foghornref04_Same.mono _ _ _ _ _ _ _ _ _ _ _)
   | (with_reducible exact foghornref04_Texts.mono _ _ _)
   | (with_reducible exact store_Boot.mono _ _)
   | (with_reducible exact store_New.mono _ _)
   | (with_reducible exact LeO.refl _)
   | (with_reducible exact LeO.none _)
   | (with_reducible refine LeO.ite ?_ ?_)
   | (with_reducible refine LeO.bind ?_ (fun _ => ?_))
   | exact ih0 _ _ _ _ _ _ _ _ _ _ _ _ _ _ _ _ _ _ _ _
   | exact ih1 _ _ _ _ _ _ _ _ _ _ _ _ _ _ _ _ _ _ _ _
   | exact ih2 _ _ _ _ _ _ _ _ _ _ _ _
   | exact foghornlaw04_alive.mono _
   | exact foghornlaw04_cut.mono _ _ _ _ _ _
   | exact foghornlaw04_few.mono _ _ _
   | exact foghornref04_Boot.mono _ _
   | exact foghornref04_Log.mono _ _
   | exact foghornref04_New.mono _ _
   | exact foghornref04_Right.mono _ _ _ _ _ _
   | exact foghornref04_Same.mono _ _ _ _ _ _ _ _ _ _ _
   | exact foghornref04_Texts.mono _ _ _
   | exact store_Boot.mono _ _
   | exact store_New.mono _ _
   | exact LeO.none _
   | refine LeO.ite ?_ ?_
   | refine LeO.bind ?_ (fun _ => ?_)
  ·intro y0 y1 y2 y3 y4 y5 y6 y7 y8 y9 y10 y11 y12 y13 y14 y15 y16 y17 y18 y19
   unfold foghornlaw04_StoreBoots.j1
   repeat' first
   | (with_reducible exact ih0 _ _ _ _ _ _ _ _ _ _ _ _ _ _ _ _ _ _ _ _)
   | (with_reducible exact ih1 _ _ _ _ _ _ _ _ _ _ _ _ _ _ _ _ _ _ _ _)
   | (with_reducible exact ih2 _ _ _ _ _ _ _ _ _ _ _ _)
   | (with_reducible exact foghornlaw04_alive.mono _)
   | (with_reducible exact foghornlaw04_cut.mono _ _ _ _ _ _)
   | (with_reducible exact foghornlaw04_few.mono _ _ _)
   | (with_reducible exact foghornref04_Boot.mono _ _)
   | (with_reducible exact foghornref04_Log.mono _ _)
   | (with_reducible exact foghornref04_New.mono _ _)
   | (with_reducible exact foghornref04_Right.mono _ _ _ _ _ _)
   | (with_reducible exact foghornref04_Same.mono _ _ _ _ _ _ _ _ _ _ _)
   | (with_reducible exact foghornref04_Texts.mono _ _ _)
   | (with_reducible exact store_Boot.mono _ _)
   | (with_reducible exact store_New.mono _ _)
   | (with_reducible exact LeO.refl _)
   | (with_reducible exact LeO.none _)
   | (with_reducible refine LeO.ite ?_ ?_)
   | (with_reducible refine LeO.bind ?_ (fun _ => ?_))
   | exact ih0 _ _ _ _ _ _ _ _ _ _ _ _ _ _ _ _ _ _ _ _
   | exact ih1 _ _ _ _ _ _ _ _ _ _ _ _ _ _ _ _ _ _ _ _
   | exact ih2 _ _ _ _ _ _ _ _ _ _ _ _
   | exact foghornlaw04_alive.mono _
   | exact foghornlaw04_cut.mono _ _ _ _ _ _
   | exact foghornlaw04_few.mono _ _ _
   | exact foghornref04_Boot.mono _ _
   | exact foghornref04_Log.mono _ _
   | exact foghornref04_New.mono _ _
   | exact foghornref04_Right.mono _ _ _ _ _ _
   | exact foghornref04_Same.mono _ _ _ _ _ _ _ _ _ _ _
   | exact foghornref04_Texts.mono _ _ _
   | exact store_Boot.mono _ _
   | exact store_New.mono _ _
   | exact LeO.none _
   | refine LeO.ite ?_ ?_
   | refine LeO.bind ?_ (fun _ => ?_)
  ·intro y0 y1 y2 y3 y4 y5 y6 y7 y8 y9 y10 y11
   unfold foghornlaw04_StoreBoots.j2
   repeat' first
   | (with_reducible exact ih0 _ _ _ _ _ _ _ _ _ _ _ _ _ _ _ _ _ _ _ _)
   | (with_reducible exact ih1 _ _ _ _ _ _ _ _ _ _ _ _ _ _ _ _ _ _ _ _)
   | (with_reducible exact ih2 _ _ _ _ _ _ _ _ _ _ _ _)
   | (with_reducible exact foghornlaw04_alive.mono _)
   | (with_reducible exact foghornlaw04_cut.mono _ _ _ _ _ _)
   | (with_reducible exact foghornlaw04_few.mono _ _ _)
   | (with_reducible exact foghornref04_Boot.mono _ _)
   | (with_reducible exact foghornref04_Log.mono _ _)
   | (with_reducible exact foghornref04_New.mono _ _)
   | (with_reducible exact foghornref04_Right.mono _ _ _ _ _ _)
   | (with_reducible exact foghornref04_Same.mono _ _ _ _ _ _ _ _ _ _ _)
   | (with_reducible exact foghornref04_Texts.mono _ _ _)
   | (with_reducible exact store_Boot.mono _ _)
   | (with_reducible exact store_New.mono _ _)
   | (with_reducible exact LeO.refl _)
   | (with_reducible exact LeO.none _)
   | (with_reducible refine LeO.ite ?_ ?_)
   | (with_reducible refine LeO.bind ?_ (fun _ => ?_))
   | exact ih0 _ _ _ _ _ _ _ _ _ _ _ _ _ _ _ _ _ _ _ _
   | exact ih1 _ _ _ _ _ _ _ _ _ _ _ _ _ _ _ _ _ _ _ _
   | exact ih2 _ _ _ _ _ _ _ _ _ _ _ _
   | exact foghornlaw04_alive.mono _
   | exact foghornlaw04_cut.mono _ _ _ _ _ _
   | exact foghornlaw04_few.mono _ _ _
   | exact foghornref04_Boot.mono _ _
   | exact foghornref04_Log.mono _ _
   | exact foghornref04_New.mono _ _
   | exact foghornref04_Right.mono _ _ _ _ _ _
   | exact foghornref04_Same.mono _ _ _ _ _ _ _ _ _ _ _
   | exact foghornref04_Texts.mono _ _ _
   | exact store_Boot.mono _ _
   | exact store_New.mono _ _
   | exact LeO.none _
   | refine LeO.ite ?_ ?_
   | refine LeO.bind ?_ (fun _ => ?_)
def foghornlaw04_StoreBoots.T1 : Bool × List (List Nat × List Nat) := (true, [([], []), ([0], [0]), ([], []), ([2], [2]), ([3, 1], [3]), ([4], [4]), ([1, 4, 0, 1], [1]), ([5, 6, 0, 1, 2, 3, 4, 5, 6], [5])])
def foghornlaw04_StoreBoots.B1 : List Nat := [0, 1, 0, 4, 15, 31, 31, 127]
theorem foghornlaw04_StoreBoots.tab1 : rtab .any (opsOf Try.f3 1) = foghornlaw04_StoreBoots.T1 := by kernel_rfl
theorem foghornlaw04_StoreBoots.bits1 : waitsOk foghornlaw04_StoreBoots.T1.2 foghornlaw04_StoreBoots.B1 = true := by kernel_rfl
end Go.Proofs.YtopaddpclipnjaaQ.P
namespace Go.Proofs.YtopaddpclipnjaaQ.P
open Go.RowKit Go.Proofs.YtopaddpclipnjaaW.PrintWords Go.Proofs.YtopaddpclipnjaaW.PrintLast Go.Proofs.YtopaddpclipnjaaW.PrintMore
attribute [local go_sem] max2_int min2_int max_two min_two max_three min_three max_four min_four
def foghornref04_Append.T1 : Bool × List (List Nat × List Nat) := (true, [([], []), ([], []), ([1], [1]), ([], []), ([3], [3]), ([], []), ([5], [5]), ([2, 4, 6], [2, 4, 6]), ([], []), ([8], [8]), ([], []), ([10], [10]), ([11], [11]), ([], []), ([9, 12, 13, 7], [9, 12, 13]), ([], []), ([0, 7, 14, 15, 14], [0, 7, 14, 15]), ([16], [16]), ([17], [17]), ([17], [17]), ([], []), ([20, 18, 16, 0, 1, 2, 3, 4, 5, 6, 7, 8, 9, 10, 11, 12, 13, 14, 15, 16, 17, 18, 20], [18, 20]), ([19, 21, 0, 1, 2, 3, 4, 5, 6, 7, 8, 9, 10, 11, 12, 13, 14, 15, 16, 17, 18, 19, 20, 21], [19])])
def foghornref04_Append.B1 : List Nat := [0, 0, 2, 0, 8, 0, 32, 126, 0, 256, 0, 1024, 3072, 0, 16382, 0, 65535, 131071, 262143, 262143, 0, 1572863, 4194303]
theorem foghornref04_Append.tab1 : rtab .any (opsOf Try.f25 1) = foghornref04_Append.T1 := by kernel_rfl
theorem foghornref04_Append.bits1 : waitsOk foghornref04_Append.T1.2 foghornref04_Append.B1 = true := by kernel_rfl
end Go.Proofs.YtopaddpclipnjaaQ.P
namespace Go.Proofs.YtopaddpclipnjaaQ.P
open Go.RowKit Go.Proofs.YtopaddpclipnjaaW.PrintWords Go.Proofs.YtopaddpclipnjaaW.PrintMore Go.Proofs.Ytopaddpclipnjaa
theorem tearL_le (xs : List ByteArray) (i : Int) (t : ByteArray) (k : Int) : (tearL xs i t k).length ≤ xs.length := by
  unfold tearL
  split
  · simp
  · simp
theorem appendS_valid (s : Sto) {p : ByteArray} {f : Flt} (hf : fltB f = true) : appendS s p f = if s.okB = false then (Sto.zero, 1) else if 96 < p.size then (Sto.zero, 2) else if s.down = true then (Sto.zero, 9) else if s.used = areaD s.xs then (Sto.zero, 5) else appS s p f := by
  unfold appendS mayS
  cases s.okB
  · simp
  · by_cases h : 96 < p.size
    · simp [hf, h]
    · cases s.down <;> simp [hf, h]
theorem appendS_go {s : Sto} (ho : s.okB = true) (hd : s.down = false) (hu : s.used ≠ areaD s.xs) {p : ByteArray} {f : Flt} (hp : p.size ≤ 96) (hf : fltB f = true) : appendS s p f = appS s p f := by
  rw [appendS_valid s hf, if_neg (by rw [ho]; decide), if_neg (by omega), if_neg (by rw [hd]; decide), if_neg hu]
theorem appendS_no {s : Sto} (h : ¬ (s.okB = true ∧ s.down = false ∧ s.used ≠ areaD s.xs)) : ∃ m : Int, m ≠ 0 ∧ m ≠ 8 ∧ m ≠ 9 + 1000 ∧ ∀ (p : ByteArray) (f : Flt), p.size ≤ 96 → fltB f = true → appendS s p f = (Sto.zero, m) := by
  by_cases ho : s.okB = true
  · by_cases hd : s.down = true
    · exact ⟨9, by decide, by decide, by decide, fun p f hp hf => by rw [appendS_valid s hf, if_neg (by rw [ho]; decide), if_neg (by omega), if_pos hd]⟩
    · by_cases hu : s.used = areaD s.xs
      · exact ⟨5, by decide, by decide, by decide, fun p f hp hf => by rw [appendS_valid s hf, if_neg (by rw [ho]; decide), if_neg (by omega), if_neg hd, if_pos hu]⟩
      · exact absurd ⟨ho, by simpa using hd, hu⟩ h
  · exact ⟨1, by decide, by decide, by decide, fun p f hp hf => by rw [appendS_valid s hf, if_pos (by simpa using ho)]⟩
theorem same_zero {k : Nat} (hk : 0 < k) : foghornref04_Same.f k Sto.zero.xs Sto.zero.gen Sto.zero.used Sto.zero.top Sto.zero.down [] 0 0 0 false = some true := by
  have := ssame_f Sto.zero Sto.zero (by decide) (k := k) hk
  rw [stoEq_self] at this
  exact this
theorem appS_len (s : Sto) (p : ByteArray) (f : Flt) : (appS s p f).1.xs.length ≤ s.xs.length := by
  unfold appS
  split
  · exact Nat.le_refl _
  · split
    · exact tearL_le _ _ _ _
    · exact tearL_le _ _ _ _
end Go.Proofs.YtopaddpclipnjaaQ.P
namespace Go.Proofs.YtopaddpclipnjaaQ.P
open Go.RowKit Go.Proofs.YtopaddpclipnjaaW.PrintWords Go.Proofs.YtopaddpclipnjaaW.PrintMore Go.Proofs.Ytopaddpclipnjaa
theorem fails_pure (l0_0 : List ByteArray) (a0_1 a0_2 a0_3 : Int) (a0_4 : Bool) (a1 a2 : ByteArray) : foghornlaw04_StoreFails.f 400 l0_0 a0_1 a0_2 a0_3 a0_4 a1 a2 = some true := by
  obtain ⟨s, hs⟩ : ∃ s : Sto, s = ⟨cutD l0_0, a0_1, a0_2, a0_3, a0_4⟩ := ⟨_, rfl⟩
  obtain ⟨p, hp⟩ : ∃ p, p = cutB 96 a1 := ⟨_, rfl⟩
  obtain ⟨q, hq⟩ : ∃ q, q = cutB 96 a2 := ⟨_, rfl⟩
  have hps : p.size ≤ 96 := by rw [hp, cutB_size]; omega
  have hqs : q.size ≤ 96 := by rw [hq, cutB_size]; omega
  have hl : s.xs.length ≤ 132 := by rw [hs]; exact cutD_len _
  have e1 := mn_eq (a1.size : Int) 96
  have e2 := mn_eq (a2.size : Int) 96
  unfold foghornlaw04_StoreFails.f
  rw [cut_f ⟨l0_0, a0_1, a0_2, a0_3, a0_4⟩ (by omega), Option.bind_some]
  simp only
  rw [if_pos (by omega), if_pos (by omega), if_pos (by omega), if_pos (by omega), cutB_mn 96 96 _ rfl, cutB_mn 96 96 _ rfl, ← hp, ← hq]
  have f1 := app_f s p ⟨1, 0⟩
  have f2 := app_f s q ⟨0, 0⟩
  rw [hs] at f1 f2
  simp only at f1 f2
  rw [f1, f2, ← hs]
  have hg1 : cutD l0_0 = s.xs := by rw [hs]
  have hg2 : a0_1 = s.gen := by rw [hs]
  have hg3 : a0_2 = s.used := by rw [hs]
  have hg4 : a0_3 = s.top := by rw [hs]
  have hg5 : a0_4 = s.down := by rw [hs]
  rw [hg1, hg2, hg3, hg4, hg5]
  by_cases hgo : s.okB = true ∧ s.down = false ∧ s.used ≠ areaD s.xs
  · obtain ⟨ho, hd, hu⟩ := hgo
    rw [appendS_go ho hd hu hps (by decide), appendS_go ho hd hu hqs (by decide)]
    have ha : appS s p ⟨1, 0⟩ = (s, 8) := by unfold appS; rw [if_pos rfl]
    have hb : (appS s q ⟨0, 0⟩).2 = 0 := by unfold appS; rw [if_neg (by decide), if_neg (by decide)]
    have hlq := appS_len s q ⟨0, 0⟩
    rw [ha]
    have f3 : store_Append.f s.xs s.gen s.used s.top s.down q 0 0 = stoOut (appS s q ⟨0, 0⟩) := by rw [show store_Append.f s.xs s.gen s.used s.top s.down q 0 0 = _ from app_f s q ⟨0, 0⟩, appendS_go ho hd hu hqs (by decide)]
    unfold stoOut at f3 ⊢
    simp only [Option.bind_some]
    rw [if_pos trivial, f3, Option.bind_some, alive_f (by omega), Option.bind_some, if_pos rfl, hb, if_pos rfl, if_pos rfl, ssame_f s s (by omega) (by omega), Option.bind_some, stoEq_self, if_pos rfl]
    rw [ssame_f (appS s q ⟨0, 0⟩).1 (appS s q ⟨0, 0⟩).1 (by omega) (by omega), Option.bind_some, stoEq_self]
  · obtain ⟨m, m0, m8, _, hm⟩ := appendS_no hgo
    rw [hm p _ hps (by decide), hm q _ hqs (by decide)]
    unfold stoOut
    simp only [Option.bind_some]
    rw [if_neg m8, alive_f (by omega), Option.bind_some, if_pos rfl, if_pos trivial, if_neg m0, same_zero (by omega)]
    rfl
end Go.Proofs.YtopaddpclipnjaaQ.P
namespace Go.Proofs.Ytopaddpclipnjaa
open Go.RowKit Go.ChangeShapes Go.WideShapes Go.ChangeAt Go.Proofs.YtopaddpclipnjaaW.PrintWords
def Opens (P : Program) (W : World) (t : TypeId) {α : Type} (d : Kd α) (Q : α → Prop) : Prop :=
  ∀ {H : Type} (enc : TypeId × Value → H) (base : Nat) (spare : Nat → Bool) (held : Bool) (fuel : Nat) (cs : List Value) (y : DataW H × List MemPlace), DataW.trod enc P W base spare held fuel t cs = some y → cs.length = d.sz → ∃ x, d.K W x cs ∧ Q x
def OpensL (P : Program) (W : World) (fs : List Field) (o : Nat) {α : Type} (d : Kd α) (Q : α → Prop) : Prop :=
  ∀ {H : Type} (enc : TypeId × Value → H) (base : Nat) (spare : Nat → Bool) (held : Bool) (cs : List Value), (∀ (j : Nat) (f : Field), fs[j]? = some f → ∃ fuel y, DataW.trod enc P W base spare held fuel f.type ((cs.drop (f.offset - o)).take (P.cellsOf f.type)) = some y) → cs.length = d.sz → ∃ x, d.K W x cs ∧ Q x
section
variable {P : Program} {W : World} {t e : TypeId} {α β : Type} {d : Kd α} {Q : α → Prop}
theorem opens_int {k : IntKind} (ht : P.underlying t = some (.int k)) : Opens P W t (Kd.int k) (fun n => (Lit.int k n).wf = true) := by
  intro H enc base spare held fuel cs y h _
  obtain ⟨n, rfl, _, hw⟩ := DataW.trod_int ht h
  exact ⟨n, rfl, hw⟩
theorem opens_bool (ht : P.underlying t = some .bool) : Opens P W t Kd.bool (fun _ => True) := by
  intro H enc base spare held fuel cs y h _
  obtain ⟨n, rfl, _⟩ := DataW.trod_bool ht h
  exact ⟨n, rfl, trivial⟩
theorem opens_string (ht : P.underlying t = some .string) : Opens P W t Kd.string (fun s => s.size ≤ maxLen) := by
  intro H enc base spare held fuel cs y h _
  obtain ⟨n, rfl, _, hw⟩ := DataW.trod_string ht h
  exact ⟨n, rfl, hw⟩
theorem opens_C (hc : P.cellsOf e = d.sz) (h0 : 0 < d.sz) (h : Opens P W e d Q) {H : Type} {enc : TypeId × Value → H} {base : Nat} {spare : Nat → Bool} {held : Bool} {p : List MemPlace} {dd : DataW H} (ht : P.underlying t = some (.slice e)) {v : Value} (ht2 : DataW.Trod enc P W base spare held t v dd p) (hv : ∃ a l c, v = .slice a l c) :
    ∃ (xs : List α) (A : Option Addr) (c : Nat), v = .slice A xs.length c ∧ xs.length ≤ c ∧ d.C W A xs.length xs ∧ ∀ x ∈ xs, Q x := by
  obtain ⟨n, cells, hS, hel⟩ := sl_of_trod ht hc h0 ht2 hv
  have hx : ∀ i, i < n → ∃ x, d.K W x ((cells.drop (i * d.sz)).take d.sz) ∧ Q x := by
    intro i hi
    obtain ⟨f, y, hy⟩ := hel i hi
    refine h enc base spare held f _ y hy ?_
    have hle : i * d.sz + d.sz ≤ n * d.sz := by rw [← Nat.succ_mul]; exact Nat.mul_le_mul_right _ hi
    rw [List.length_take, List.length_drop, hS.1]
    omega
  have hxs : ∀ m, m ≤ n → ∃ xs : List α, xs.length = m ∧ ∀ i x, xs[i]? = some x → d.K W x ((cells.drop (i * d.sz)).take d.sz) ∧ Q x := by
    intro m
    induction m with
    | zero => exact fun _ => ⟨[], rfl, fun i x hx => by simp at hx⟩
    | succ m ih =>
      intro hm
      obtain ⟨xs, hl, hq⟩ := ih (by omega)
      obtain ⟨x, hk, hqx⟩ := hx m (by omega)
      refine ⟨xs ++ [x], by simp [hl], fun i y hy => ?_⟩
      rcases Nat.lt_or_ge i xs.length with hi | hi
      · rw [List.getElem?_append_left hi] at hy
        exact hq i y hy
      · rw [List.getElem?_append_right hi] at hy
        obtain ⟨h1, h2⟩ := List.getElem?_eq_some_iff.1 hy
        have hi2 : i = m := by simp at h1; omega
        subst hi2
        simp at h2
        subst h2
        exact ⟨hk, hqx⟩
  obtain ⟨xs, hl, hq⟩ := hxs n (Nat.le_refl _)
  obtain ⟨a, c, hv2, hnc, hnm⟩ := hS.form
  subst hv2
  subst hl
  refine ⟨xs, a, c, rfl, hnc, ⟨rfl, by unfold maxLen at hnm; omega, fun hp => ?_⟩, fun x hx => ?_⟩
  · obtain ⟨b, o, rfl, _, hcell⟩ := hS.at hp
    refine ⟨_, rfl, fun j p hj => ⟨_, ?_, (hq j p hj).1, fun i u hu => ?_⟩⟩
    · exact d.K_len (hq j p hj).1
    · rw [List.getElem?_take] at hu
      split at hu
      · rw [List.getElem?_drop] at hu
        rw [add_off]
        exact hcell _ _ hu
      · cases hu
  · obtain ⟨i, hi, rfl⟩ := List.mem_iff_getElem.1 hx
    exact (hq i _ (List.getElem?_eq_getElem hi)).2
theorem opens_slice (ht : P.underlying t = some (.slice e)) (hc : P.cellsOf e = d.sz) (h0 : 0 < d.sz) (h : Opens P W e d Q) : Opens P W t (Kd.slice e d) (fun xs => ∀ x ∈ xs, Q x) := by
  intro H enc base spare held fuel cs y hy hl
  obtain ⟨u, rfl⟩ : ∃ u, cs = [u] := by
    match cs, hl with
    | [u], _ => exact ⟨u, rfl⟩
  obtain ⟨hv, h2⟩ := slice_of_trod ht hy
  obtain ⟨xs, A, c, rfl, h3, h4, h5⟩ := opens_C hc h0 h ht h2 hv
  exact ⟨xs, ⟨A, c, rfl, h3, h4⟩, h5⟩
theorem opensL_one {f : Field} (h : Opens P W f.type d Q) (hc : P.cellsOf f.type = d.sz) : OpensL P W [f] f.offset d Q := by
  intro H enc base spare held cs hf hl
  obtain ⟨fuel, y, hy⟩ := hf 0 f rfl
  rw [Nat.sub_self, List.drop_zero, hc, List.take_of_length_le (by omega)] at hy
  exact h enc base spare held fuel cs y hy hl
theorem opensL_cons {f : Field} {fs : List Field} {b : Kd β} {Qb : β → Prop} (h : Opens P W f.type d Q) (hc : P.cellsOf f.type = d.sz) (hs : OpensL P W fs (f.offset + d.sz) b Qb) (ho : (fs.all fun g => decide (f.offset + d.sz ≤ g.offset)) = true) :
    OpensL P W (f :: fs) f.offset (Kd.pair d b) (fun x => Q x.1 ∧ Qb x.2) := by
  intro H enc base spare held cs hf hl
  have hl' : cs.length = d.sz + b.sz := hl
  obtain ⟨fuel, y, hy⟩ := hf 0 f rfl
  rw [Nat.sub_self, List.drop_zero, hc] at hy
  obtain ⟨x, hk, hq⟩ := h enc base spare held fuel _ y hy (by rw [List.length_take]; omega)
  obtain ⟨z, hkz, hqz⟩ := hs enc base spare held (cs.drop d.sz) (fun j g hg => by
    obtain ⟨fuel, y, hy⟩ := hf (j + 1) g (by simpa using hg)
    have hog : f.offset + d.sz ≤ g.offset := by simpa using List.all_eq_true.1 ho g (List.mem_of_getElem? hg)
    refine ⟨fuel, y, ?_⟩
    rw [List.drop_drop, show d.sz + (g.offset - (f.offset + d.sz)) = g.offset - f.offset by omega]
    exact hy) (by rw [List.length_drop]; omega)
  exact ⟨(x, z), ⟨_, _, (List.take_append_drop d.sz cs).symm, hk, hkz⟩, hq, hqz⟩
theorem opens_struct {fs : Array Field} (ht : P.underlying t = some (.struct fs)) (h : OpensL P W fs.toList 0 d Q) : Opens P W t d Q := by
  intro H enc base spare held fuel cs y hy hl
  obtain ⟨xs, n, _, _, _, hlx, hx⟩ := DataW.trod_struct ht hy
  refine h enc base spare held cs (fun j f hf => ?_) hl
  have hf' : fs[j]? = some f := by simpa using hf
  have h1 := hx j f hf'
  have hj : j < xs.length := by rw [hlx]; exact (Array.getElem?_eq_some_iff.1 hf').1
  rw [List.getElem?_eq_getElem hj] at h1
  exact ⟨n, _, h1⟩
theorem Opens.imp {Q' : α → Prop} (h : Opens P W t d Q) (hq : ∀ x, Q x → Q' x) : Opens P W t d Q' := by
  intro H enc base spare held fuel cs y hy hl
  obtain ⟨x, hk, hx⟩ := h enc base spare held fuel cs y hy hl
  exact ⟨x, hk, hq x hx⟩
theorem arg_struct (h : Opens P W t d Q) {fs : Array Field} (hc : P.cellsOf t = d.sz) {H : Type} {enc : TypeId × Value → H} {r : Reach} {base bb : Nat} {spare : Nat → Bool} {held : Bool} {p : List MemPlace} {dd : DataW H} (ht : P.underlying t = some (.struct fs)) {v : Value} (hv : Value.okWide P W r bb t v) (h2 : DataW.Trod enc P W base spare held t v dd p) :
    ∃ x : α, (∃ cs : List Value, v = .agg cs.toArray ∧ d.K W x cs) ∧ Q x := by
  obtain ⟨cs, rfl, hsz⟩ := okWide_struct ht hv
  obtain ⟨fuel, hf⟩ := h2
  obtain ⟨x, hk, hq⟩ := h enc base spare held fuel cs.toList _ hf (by simpa [hc] using hsz)
  exact ⟨x, ⟨cs.toList, by simp, hk⟩, hq⟩
end
end Go.Proofs.Ytopaddpclipnjaa
namespace Go.Proofs.YtopaddpclipnjaaQ.P
open Go.RowKit Go.ChangeShapes Go.WideShapes Go.ChangeAt Go.Proofs.YtopaddpclipnjaaW.PrintWords Go.Proofs.Ytopaddpclipnjaa
theorem anyO4 {P : Program} {W : World} {t : TypeId} {α : Type} {d : Kd α} {Q : α → Prop} (h : Opens P W t d Q) : Opens P W t d (fun _ => True) := h.imp fun _ _ => trivial
theorem opensI4 (W : World) : Opens Try.prog W 3 (Kd.int .i64) (fun _ => True) := anyO4 (opens_int Try.underlying3)
theorem opensB4 (W : World) : Opens Try.prog W 4 Kd.bool (fun _ => True) := anyO4 (opens_bool Try.underlying4)
theorem opensS4 (W : World) : Opens Try.prog W 9 Kd.string (fun _ => True) := anyO4 (opens_string Try.underlying9)
theorem opensSs4 (W : World) : Opens Try.prog W 22 (Kd.slice 9 Kd.string) (fun _ => True) := anyO4 (opens_slice Try.underlying22 (by kernel_rfl) (by decide) (opensS4 W))
theorem opensDsk4 (W : World) : Opens Try.prog W 24 (Kd.slice 9 Kd.string) (fun _ => True) := opens_struct Try.underlying24 (opensL_one (opensSs4 W) (by kernel_rfl))
theorem opensSto4 (W : World) : Opens Try.prog W 26 (Kd.pair (Kd.slice 9 Kd.string) (Kd.pair (Kd.int .i64) (Kd.pair (Kd.int .i64) (Kd.pair (Kd.int .i64) Kd.bool)))) (fun _ => True) :=
  anyO4 (opens_struct Try.underlying26 (opensL_cons (opensDsk4 W) (by kernel_rfl) (opensL_cons (opensI4 W) (by kernel_rfl) (opensL_cons (opensI4 W) (by kernel_rfl) (opensL_cons (opensI4 W) (by kernel_rfl) (opensL_one (opensB4 W) (by kernel_rfl)) (by rfl)) (by rfl)) (by rfl)) (by rfl)))
def StoR (v : Value) (W : World) (s : Sto) : Prop := ∃ (A : Option Addr) (c : Nat), v = .agg #[.slice A s.xs.length c, .int .i64 s.gen, .int .i64 s.used, .int .i64 s.top, .bool s.down] ∧ Kd.C Kd.string W A s.xs.length s.xs ∧ s.xs.length ≤ c
section
variable {W : World} {H : Type} {enc : TypeId × Value → H} {r : Reach} {base bb : Nat} {spare : Nat → Bool} {held : Bool} {p : List MemPlace} {dd : DataW H} {v : Value}
set_option maxRecDepth 100000 in
theorem argSto (hv : Value.okWide Try.prog W r bb 26 v) (h2 : DataW.Trod enc Try.prog W base spare held 26 v dd p) : ∃ s : Sto, StoR v W s := by
  obtain ⟨⟨xs, a1, a2, a3, a4⟩, ⟨cs, rfl, hk⟩, _⟩ := arg_struct (opensSto4 W) (by kernel_rfl) Try.underlying26 hv h2
  obtain ⟨_, _, rfl, ⟨A, c, rfl, h1, k1⟩, _, _, rfl, rfl, _, _, rfl, rfl, _, _, rfl, rfl, rfl⟩ := hk
  exact ⟨⟨xs, a1, a2, a3, a4⟩, A, c, rfl, k1, h1⟩
end
end Go.Proofs.YtopaddpclipnjaaQ.P
namespace Go.Proofs.YtopaddpclipnjaaQ.P
open Go.RowKit Go.Proofs.YtopaddpclipnjaaW.PrintWords Go.Proofs.Ytopaddpclipnjaa
theorem StoreFails_walk (v0 : Value) (s : Sto) (p q : ByteArray) (w : World) (h0 : StoR v0 w s) (h1 : p.size ≤ maxLen) (h2 : q.size ≤ maxLen) :
    Calls Try.prog 4 #[v0, .string p, .string q] w fun e w' => e = .returned (.bool true) ∧ Below w.heap.size w w' := by
  obtain ⟨A, c, rfl, k1, k2⟩ := h0
  exact foghornlaw04_StoreFails.calls 400 A c s.xs s.gen s.used s.top s.down p q true w k1 k2 (fails_pure ..)
end Go.Proofs.YtopaddpclipnjaaQ.P
namespace Go.Proofs.Ytopaddpclipnjaa.storeFails
open Go.ChangeShapes Go.WideShapes Go.ChangeAt Go.RowKit Go.Proofs.YtopaddpclipnjaaQ.P
open Go.ChangeMaps (open_string shut_string)
theorem own : ownKnob Try.prog.godebug = none := by kernel_rfl
theorem laidOut : laidOutB Try.prog = true := by kernel_rfl
set_option maxRecDepth 100000 in
theorem lifted (os : Os) (started : os.Started) (H : Type) (enc : TypeId × Value → H) :
    ReturnsInHanded {} Try.checked os 4 .any (Rows.storeFailsSpec.pre6 enc Try.prog Try.f4 Rows.storeFailsRow.domain false) (Rows.storeFailsSpec.post enc Try.prog Try.f4 false true false false) := by
  refine returnsInHanded_of_change (C := Try.checked) own started (by kernel_rfl) Try.func4
    (ChangeSpec.witness6 (enc := enc) (C := Try.checked) false ⟨#[], #[.agg #[.slice none 0 0, .int .i64 0, .int .i64 0, .int .i64 0, .bool false], .string ByteArray.empty, .string ByteArray.empty], []⟩ 8 (by kernel_rfl) (by kernel_rfl) (by kernel_rfl) (by kernel_rfl)) ?_
  intro W base args ds gs before hval0 hW hcnd _
  have hval : ∀ (j : Nat) t v, Try.f4.params[j]? = some t → args[j]? = some v → Value.okWide Try.prog W .any base t v := hval0
  have hW' := hW
  obtain ⟨p, q, hA0, hV, rfl, hfz, hnd⟩ := hW
  have hA : DataW.TrodAll enc Try.prog W 0 (fun _ => true) true Try.f4.params.toList args.toList ds p := hA0
  rw [Try.params4] at hA hval
  obtain ⟨v0, vs0, d0, ds0, p0, q0, hargs, rfl, rfl, h0, r0⟩ := trodAll_cons hA
  obtain ⟨v1, vs1, d1, ds1, p1, q1, rfl, rfl, rfl, h1, r1⟩ := trodAll_cons r0
  obtain ⟨v2, vs2, d2, ds2, p2, q2, rfl, rfl, rfl, h2, r2⟩ := trodAll_cons r1
  obtain ⟨rfl, rfl, rfl⟩ := trodAll_nil r2
  obtain rfl : args = #[v0, v1, v2] := by cases args; simp_all
  obtain ⟨rfl, rfl⟩ := trodVars_none hV
  have lt0 : ∀ x ∈ p0, x.block < W.heap.size := by obtain ⟨m, hm⟩ := h0; exact DataW.trod_lt m _ _ _ hm
  have k0 := h0
  have lt1 : ∀ x ∈ p1, x.block < W.heap.size := by obtain ⟨m, hm⟩ := h1; exact DataW.trod_lt m _ _ _ hm
  have k1 := h1
  have lt2 : ∀ x ∈ p2, x.block < W.heap.size := by obtain ⟨m, hm⟩ := h2; exact DataW.trod_lt m _ _ _ hm
  have k2 := h2
  obtain ⟨a0, w0⟩ := argSto (hval 0 26 v0 rfl rfl) h0
  obtain ⟨a1, rfl, rfl, rfl, w1⟩ := open_string Try.underlying9 (hval 1 9 v1 rfl rfl) h1
  obtain ⟨a2, rfl, rfl, rfl, w2⟩ := open_string Try.underlying9 (hval 2 9 v2 rfl rfl) h2
  clear hA0 hval0
  refine (StoreFails_walk v0 a0 a1 a2 W w0 w1 w2).mono fun e W' ⟨he, bel⟩ => ?_
  subst he
  exact ⟨_, rfl, _, _, _, [], _, [], hW', trodAll_mk1 (shut_bool Try.underlying4 _), (trodAll_cons_mk (Below.trod laidOut (by kernel_rfl) (of_decide_eq_true (by kernel_rfl)) k0 bel lt0) (trodAll_cons_mk (Below.trod laidOut (by kernel_rfl) (of_decide_eq_true (by kernel_rfl)) k1 bel lt1) (trodAll_cons_mk (Below.trod laidOut (by kernel_rfl) (of_decide_eq_true (by kernel_rfl)) k2 bel lt2) trodAll_mk0))), rfl, bel.frame _, fun h => by cases h⟩
theorem over : Rows.storeFailsRow.holds Try.pinned (OpenSpec.ofChange Rows.storeFailsSpec) :=
  OpenClaim.holds_of_wide 4 Try.f4 rfl rfl rfl rfl rfl rfl rfl ⟨rfl, rfl, rfl, rfl, rfl⟩ rfl rfl rfl rfl rfl (by kernel_rfl) Try.func4 (by kernel_rfl)
    (of_decide_eq_true (by kernel_rfl)) (by unfold Func.isWrapper; first | (rw [if_pos (by decide +kernel)]; kernel_rfl) | (rw [if_neg (by decide +kernel)]; exact ⟨rfl, rfl⟩))
    (fun os started H enc _ => lifted os started H enc)
end Go.Proofs.Ytopaddpclipnjaa.storeFails
namespace Go.Proofs.Ytopaddpclipnjaa
theorem storeFails_holds : Rows.StoreFailsSaid := storeFails.over
#print axioms storeFails_holds
end Go.Proofs.Ytopaddpclipnjaa
