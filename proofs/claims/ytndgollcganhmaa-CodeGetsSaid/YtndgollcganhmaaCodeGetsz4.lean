/- Part 4 of a proof: contracts and plain laws of what the statement reaches. No condition. -/
import Derived.Test.YtndgollcganhmaaCodeGetsz1
import Derived.Test.YtndgollcganhmaaCodeGetsz2
import Derived.Test.YtndgollcganhmaaCodeGetsz3
set_option linter.unusedVariables false
set_option linter.unusedSimpArgs false
namespace Go.Proofs.YtndgollcganhmaaQ.P
open Go.RowKit Go.Proofs.YtndgollcganhmaaW.PrintWords Go.Proofs.YtndgollcganhmaaW.PrintLast Go.Proofs.YtndgollcganhmaaW.PrintMore
attribute [local go_sem] max2_int min2_int max_two min_two max_three min_three max_four min_four
mutual
def foghornref17_Get.j0 : Nat → ByteArray → Int → List (S41) → Int → Int → Int → Int → Int → Int → Int → Option (Int × (List (S41)) × Int × Int × Int × Int × Int × (List (S41)) × Int × Int × (List (S35)) × Bool)
 | 0, _, _, _, _, _, _, _, _, _, _ => none
 | k + 1, x0, x377000, x377001, x377002, x377003, x377004, x377005, x377006, x377008, x377009 => if x377000 = 2 then ((foghornref17_some.f k x0 1).bind fun t385 => (foghornref17_Get.j1 k x0 x377000 x377001 x377002 x377003 x377004 x377005 x377006 t385 x377008 x377009)) else (foghornref17_Get.j1 k x0 x377000 x377001 x377002 x377003 x377004 x377005 x377006 ([] : List (S41)) x377008 x377009)
def foghornref17_Get.j1 : Nat → ByteArray → Int → List (S41) → Int → Int → Int → Int → Int → List (S41) → Int → Int → Option (Int × (List (S41)) × Int × Int × Int × Int × Int × (List (S41)) × Int × Int × (List (S35)) × Bool)
 | 0, _, _, _, _, _, _, _, _, _, _, _ => none
 | k + 1, x0, x377000, x377001, x377002, x377003, x377004, x377005, x377006, x377007, x377008, x377009 => if x377000 = 3 then ((foghornref17_time.f k x0 1).bind fun t388 => ((foghornref17_time.f k x0 7).bind fun t389 => ((foghornref17_asked.f k x0 13).bind fun t390 => ((foghornref17_Right.f k x377000 x377001 x377002 x377003 x377004 x377005 x377006 x377007 t388 t389 t390).bind fun t393 => (if t393 = true then ((foghornref17_Put.f k x377000 x377001 x377002 x377003 x377004 x377005 x377006 x377007 t388 t389 t390).bind fun t394 => (some (x377000, x377001, x377002, x377003, x377004, x377005, x377006, x377007, t388, t389, t390, (t394.toList == x0.toList)))) else (some (x377000, x377001, x377002, x377003, x377004, x377005, x377006, x377007, t388, t389, t390, false))))))) else ((foghornref17_Right.f k x377000 x377001 x377002 x377003 x377004 x377005 x377006 x377007 x377008 x377009 ([] : List (S35))).bind fun t395 => (if t395 = true then ((foghornref17_Put.f k x377000 x377001 x377002 x377003 x377004 x377005 x377006 x377007 x377008 x377009 ([] : List (S35))).bind fun t396 => (some (x377000, x377001, x377002, x377003, x377004, x377005, x377006, x377007, x377008, x377009, ([] : List (S35)), (t396.toList == x0.toList)))) else (some (x377000, x377001, x377002, x377003, x377004, x377005, x377006, x377007, x377008, x377009, ([] : List (S35)), false))))
end
def foghornref17_Get.f (k : Nat) (a0 : ByteArray) : Option (Int × (List (S41)) × Int × Int × Int × Int × Int × (List (S41)) × Int × Int × (List (S35)) × Bool) := (foghornref17_at.f a0 0).bind fun t375 => (if t375 = 1 then ((foghornref17_at.f a0 1).bind fun t377 => ((foghornref17_at.f a0 2).bind fun t378 => ((foghornref17_at.f a0 3).bind fun t379 => ((foghornref17_at.f a0 4).bind fun t380 => ((foghornref17_time.f k a0 5).bind fun t381 => ((foghornref17_some.f k a0 11).bind fun t382 => (foghornref17_Get.j0 k a0 t375 t382 t377 t378 t379 t381 t380 0 0))))))) else (foghornref17_Get.j0 k a0 t375 ([] : List (S41)) 0 0 0 0 0 0 0))
def foghornref17_Get.T8 : Bool × List (List Nat × List Nat) := (true, [([], []), ([], []), ([1], [1]), ([2, 2], [2]), ([3], [3]), ([4, 3, 3], [3, 4]), ([3], [3]), ([5, 6, 3], [3, 5, 6]), ([3, 7], [3, 7]), ([0, 5, 0], [0]), ([8, 9, 0, 1, 2, 3, 4, 5, 6, 7, 8, 9], [8])])
def foghornref17_Get.B8 : List Nat := [0, 0, 2, 6, 14, 30, 14, 126, 254, 63, 1023]
theorem foghornref17_Get.tab8 : rtab .any (opsOf Try.f31 8) = foghornref17_Get.T8 := by kernel_rfl
theorem foghornref17_Get.bits8 : waitsOk foghornref17_Get.T8.2 foghornref17_Get.B8 = true := by kernel_rfl
set_option maxHeartbeats 8000000 in
set_option maxRecDepth 100000 in
theorem foghornref17_Get.calls (k : Nat) (a0 : ByteArray) (r1 : Int) (r2 : List (S41)) (r3 : Int) (r4 : Int) (r5 : Int) (r6 : Int) (r7 : Int) (r8 : List (S41)) (r9 : Int) (r10 : Int) (r11 : List (S35)) (r12 : Bool) (w : World) (h : foghornref17_Get.f k a0 = some (r1, r2, r3, r4, r5, r6, r7, r8, r9, r10, r11, r12)) :
  Calls Try.prog 31 #[.string a0] w fun e w' => ∃ v1_ v7_ v10_ : Value, e = .returned (.tuple #[.agg #[.int .i64 r1, v1_, .int .i64 r3, .int .i64 r4, .int .i64 r5, .int .i64 r6, .int .i64 r7, v7_, .int .i64 r9, .int .i64 r10, v10_], .bool r12]) ∧ Kd.R k41 41 w' w.heap.size (fun k_ => some k_ ≠ (v7_ : Value).ownBlock) v1_ r2 ∧ Kd.R k41 41 w' w.heap.size (fun k_ => some k_ ≠ (v1_ : Value).ownBlock) v7_ r8 ∧ Kd.R k35 35 w' w.heap.size (fun _ => True) v10_ r11 ∧ Below w.heap.size w w' := by
 have hu50 := Try.underlying50
 have hu46 := Try.underlying46
 have hu48 := Try.underlying48
 have HB := aA (Below.refl w.heap.size w)
 have H : ((foghornref17_at.f a0 0).bind fun t375 => (if t375 = 1 then ((foghornref17_at.f a0 1).bind fun t377 => ((foghornref17_at.f a0 2).bind fun t378 => ((foghornref17_at.f a0 3).bind fun t379 => ((foghornref17_at.f a0 4).bind fun t380 => ((foghornref17_time.f k a0 5).bind fun t381 => ((foghornref17_some.f k a0 11).bind fun t382 => (foghornref17_Get.j0 k a0 t375 t382 t377 t378 t379 t381 t380 0 0))))))) else (foghornref17_Get.j0 k a0 t375 ([] : List (S41)) 0 0 0 0 0 0 0))) = some (r1, r2, r3, r4, r5, r6, r7, r8, r9, r10, r11, r12) := h
 clear h
 replace H := Option.bind_eq_some_iff.mp H
 obtain ⟨t375, A20, H⟩ := H
 replace H : (if t375 = 1 then ((foghornref17_at.f a0 1).bind fun t377 => ((foghornref17_at.f a0 2).bind fun t378 => ((foghornref17_at.f a0 3).bind fun t379 => ((foghornref17_at.f a0 4).bind fun t380 => ((foghornref17_time.f k a0 5).bind fun t381 => ((foghornref17_some.f k a0 11).bind fun t382 => (foghornref17_Get.j0 k a0 t375 t382 t377 t378 t379 t381 t380 0 0))))))) else (foghornref17_Get.j0 k a0 t375 ([] : List (S41)) 0 0 0 0 0 0 0)) = some (r1, r2, r3, r4, r5, r6, r7, r8, r9, r10, r11, r12) := H
 have A2 := aA A20
 clear A20
 have HC3 := aA H
 clear H
 go_enter Try.func31, Try.ntmps31
 go_upto_if 10 with (first | ((with_reducible refine gate_dst (N := 2) rfl ?_); refine box_event ?hg (N := 2) ?hd (cs := #[.int .i64 0, .slice none 0 0, .int .i64 0, .int .i64 0, .int .i64 0, .int .i64 0, .int .i64 0, .slice none 0 0, .int .i64 0, .int .i64 0, .slice none 0 0]) (t := 50) ?hr ?_; (case hd => rfl); (case hg => rfl); (case hr => first | (go_simp; done) | (go_simp; rfl)); intro gb374 hg w4 hbox hb; have n0_ := aA (below_step mB hb); have n1_ := aA (hbox); have n2_ := aA ((bZ hg mB)); have n3_ := aA ((bZ hg mB)); clear HB; have HB := n0_; have BK374 := n1_; have GW374 := n2_; have GE374 := n3_; clear n0_ n1_ n2_ n3_ hb hbox hg) | ((with_reducible refine gate_callee (f := 65) rfl ?_); refine goesL_ (some 6) rfl rfl Try.func65 (by kernel_rfl) rfl #[.string a0, .int .i64 0] rfl mS ?_; (with_reducible refine (foghornref17_at.calls a0 0 t375 _ A2.out).mono ?_); rintro e w' ⟨rfl, ⟨nd, rfl⟩⟩; refine ⟨_, rfl, ?_⟩; (try (rw [drewN_self w4]; generalize hq_ : World.drewN w4 _ = w4; have n0_ : Aside0 (w4.heap[gb374]? = some (.cells #[.int .i64 0, .slice none 0 0, .int .i64 0, .int .i64 0, .int .i64 0, .int .i64 0, .int .i64 0, .slice none 0 0, .int .i64 0, .int .i64 0, .slice none 0 0] 50 (0, 0))) := ⟨by rw [← hq_]; exact (mK BK374.out)⟩; have n1_ : Aside0 (Below w.heap.size w w4) := ⟨by rw [← hq_]; exact (mD1 GE374.out)⟩; clear BK374 HB hq_; have BK374 := n0_; have HB := n1_; clear n0_ n1_))) | ((with_reducible refine gate_dst (N := 4) rfl ?_); refine box_event ?hg (N := 4) ?hd (cs := #[.int .i64 0, .slice none 0 0, .int .i64 0, .int .i64 0, .int .i64 0, .int .i64 0, .int .i64 0, .slice none 0 0, .int .i64 0, .int .i64 0, .slice none 0 0]) (t := 50) ?hr ?_; (case hd => rfl); (case hg => rfl); (case hr => first | (go_simp; done) | (go_simp; rfl)); intro gb376 hg w5 hbox hb; have n0_ := aA (bB BK374.out hb); have n1_ := aA (below_step (mD1 GE374.out) hb); have n2_ := aA (hbox); have n3_ := aA ((bZ hg (mD1 GE374.out))); have n4_ := aA ((bZ hg (mD1 GE374.out))); have n5_ := aA ((bL hg BK374.out)); have n6_ := aA ((bG hg BK374.out)); clear BK374 HB; have BK374 := n0_; have HB := n1_; have BK376 := n2_; have GW376 := n3_; have GE376 := n4_; have NB374_376 := n5_; have NB376_374 := n6_; clear n0_ n1_ n2_ n3_ n4_ n5_ n6_ hb hbox hg; have hnb6 := NB376_374.out; have hnc6 := NB374_376.out; obtain ⟨hcz7_0, hcz7_1, hcz7_2, hcz7_3, hcz7_4, hcz7_5, hcz7_6, hcz7_7, hcz7_8, hcz7_9, hcz7_10⟩ := bC11 BK376.out; obtain ⟨hfz7_0, hfz7_1, hfz7_2, hfz7_3, hfz7_4, hfz7_5, hfz7_6, hfz7_7, hfz7_8, hfz7_9, hfz7_10⟩ := bF11 BK376.out))
 (try simp only [Act.put, List.setIfInBounds_toArray, List.set_cons_zero, List.set_cons_succ])
 go_cut [] (fun wc => ∃ (kq : Nat) (x377001_2 : List (S41)) (x377002_2 : Int) (x377003_2 : Int) (x377004_2 : Int) (x377005_2 : Int) (x377006_2 : Int) (u377001 : Value), Aside0 (foghornref17_Get.j0 kq a0 t375 x377001_2 x377002_2 x377003_2 x377004_2 x377005_2 x377006_2 0 0 = some (r1, r2, r3, r4, r5, r6, r7, r8, r9, r10, r11, r12)) ∧ Aside0 (kq ≤ k) ∧ Aside0 (Kd.R k41 41 wc w.heap.size (fun _ => True) u377001 x377001_2) ∧ Aside0 (wc.heap[gb374]? = some (.cells #[.int .i64 0, (.slice none 0 0), .int .i64 0, .int .i64 0, .int .i64 0, .int .i64 0, .int .i64 0, (.slice none 0 0), .int .i64 0, .int .i64 0, (.slice none 0 0)] 50 (0, 0))) ∧ Aside0 (wc.heap[gb376]? = some (.cells #[.int .i64 t375, u377001, .int .i64 x377002_2, .int .i64 x377003_2, .int .i64 x377004_2, .int .i64 x377005_2, .int .i64 x377006_2, (.slice none 0 0), .int .i64 0, .int .i64 0, (.slice none 0 0)] 50 (0, 0))) ∧ Aside0 (Below w.heap.size w wc))
 case first =>
  have H := HC3.out
  clear HC3
  by_cases c8 : t375 = 1
  ·rw [if_pos c8] at H
   have c8b0 : (t375 == 1) = true := beq_iff_eq.mpr c8
   have c8b1 : (t375 != 1) = false := bne_eq_false_iff_eq.mpr c8
   clear c8
   (first | rw [c8b0] | (simp only [i64_w, i32_w]; rw [c8b0]) | skip)
   replace H := Option.bind_eq_some_iff.mp H
   obtain ⟨t377, A90, H⟩ := H
   replace H : ((foghornref17_at.f a0 2).bind fun t378 => ((foghornref17_at.f a0 3).bind fun t379 => ((foghornref17_at.f a0 4).bind fun t380 => ((foghornref17_time.f k a0 5).bind fun t381 => ((foghornref17_some.f k a0 11).bind fun t382 => (foghornref17_Get.j0 k a0 t375 t382 t377 t378 t379 t381 t380 0 0)))))) = some (r1, r2, r3, r4, r5, r6, r7, r8, r9, r10, r11, r12) := H
   have A9 := aA A90
   clear A90
   replace H := Option.bind_eq_some_iff.mp H
   obtain ⟨t378, A100, H⟩ := H
   replace H : ((foghornref17_at.f a0 3).bind fun t379 => ((foghornref17_at.f a0 4).bind fun t380 => ((foghornref17_time.f k a0 5).bind fun t381 => ((foghornref17_some.f k a0 11).bind fun t382 => (foghornref17_Get.j0 k a0 t375 t382 t377 t378 t379 t381 t380 0 0))))) = some (r1, r2, r3, r4, r5, r6, r7, r8, r9, r10, r11, r12) := H
   have A10 := aA A100
   clear A100
   replace H := Option.bind_eq_some_iff.mp H
   obtain ⟨t379, A110, H⟩ := H
   replace H : ((foghornref17_at.f a0 4).bind fun t380 => ((foghornref17_time.f k a0 5).bind fun t381 => ((foghornref17_some.f k a0 11).bind fun t382 => (foghornref17_Get.j0 k a0 t375 t382 t377 t378 t379 t381 t380 0 0)))) = some (r1, r2, r3, r4, r5, r6, r7, r8, r9, r10, r11, r12) := H
   have A11 := aA A110
   clear A110
   replace H := Option.bind_eq_some_iff.mp H
   obtain ⟨t380, A120, H⟩ := H
   replace H : ((foghornref17_time.f k a0 5).bind fun t381 => ((foghornref17_some.f k a0 11).bind fun t382 => (foghornref17_Get.j0 k a0 t375 t382 t377 t378 t379 t381 t380 0 0))) = some (r1, r2, r3, r4, r5, r6, r7, r8, r9, r10, r11, r12) := H
   have A12 := aA A120
   clear A120
   replace H := Option.bind_eq_some_iff.mp H
   obtain ⟨t381, A130, H⟩ := H
   replace H : ((foghornref17_some.f k a0 11).bind fun t382 => (foghornref17_Get.j0 k a0 t375 t382 t377 t378 t379 t381 t380 0 0)) = some (r1, r2, r3, r4, r5, r6, r7, r8, r9, r10, r11, r12) := H
   have A13 := aA A130
   clear A130
   replace H := Option.bind_eq_some_iff.mp H
   obtain ⟨t382, A140, H⟩ := H
   replace H : (foghornref17_Get.j0 k a0 t375 t382 t377 t378 t379 t381 t380 0 0) = some (r1, r2, r3, r4, r5, r6, r7, r8, r9, r10, r11, r12) := H
   have A14 := aA A140
   clear A140
   have H' := aA H
   clear H
   go_wp2_with (first | ((with_reducible refine gate_callee (f := 65) rfl ?_); refine goesL_ (some 12) rfl rfl Try.func65 (by kernel_rfl) rfl #[.string a0, .int .i64 1] rfl mS ?_; (with_reducible refine (foghornref17_at.calls a0 1 t377 _ A9.out).mono ?_); rintro e w' ⟨rfl, ⟨nd, rfl⟩⟩; refine ⟨_, rfl, ?_⟩) | ((with_reducible refine gate_callee (f := 65) rfl ?_); refine goesL_ (some 14) rfl rfl Try.func65 (by kernel_rfl) rfl #[.string a0, .int .i64 2] rfl mS ?_; (with_reducible refine (foghornref17_at.calls a0 2 t378 _ A10.out).mono ?_); rintro e w' ⟨rfl, ⟨nd, rfl⟩⟩; refine ⟨_, rfl, ?_⟩) | ((with_reducible refine gate_callee (f := 65) rfl ?_); refine goesL_ (some 16) rfl rfl Try.func65 (by kernel_rfl) rfl #[.string a0, .int .i64 3] rfl mS ?_; (with_reducible refine (foghornref17_at.calls a0 3 t379 _ A11.out).mono ?_); rintro e w' ⟨rfl, ⟨nd, rfl⟩⟩; refine ⟨_, rfl, ?_⟩) | ((with_reducible refine gate_callee (f := 65) rfl ?_); refine goesL_ (some 18) rfl rfl Try.func65 (by kernel_rfl) rfl #[.string a0, .int .i64 4] rfl mS ?_; (with_reducible refine (foghornref17_at.calls a0 4 t380 _ A12.out).mono ?_); rintro e w' ⟨rfl, ⟨nd, rfl⟩⟩; refine ⟨_, rfl, ?_⟩) | ((with_reducible refine gate_callee (f := 66) rfl ?_); refine goesL_ (some 20) rfl rfl Try.func66 (by kernel_rfl) rfl #[.string a0, .int .i64 5] rfl mS ?_; (with_reducible refine (foghornref17_time.calls k a0 5 t381 _ A13.out).mono ?_); rintro e w' ⟨rfl, ⟨nd, rfl⟩⟩; refine ⟨_, rfl, ?_⟩) | ((with_reducible refine gate_callee (f := 67) rfl ?_); refine goesL_ (some 22) rfl rfl Try.func67 (by kernel_rfl) rfl #[.string a0, .int .i64 11] rfl mS ?_; (with_reducible refine (foghornref17_some.calls k a0 11 t382 _ A14.out).mono ?_); rintro e w15 ⟨v383, rfl, ho0, hb⟩; refine ⟨_, rfl, ?_⟩; have n0_ := aA (Kd.R_lower ho0 (below_size (mD2 GE374.out GE376.out))); have n1_ := aA (blk_below (g := gb374) (o := .cells #[.int .i64 0, .slice none 0 0, .int .i64 0, .int .i64 0, .int .i64 0, .int .i64 0, .int .i64 0, .slice none 0 0, .int .i64 0, .int .i64 0, .slice none 0 0] 50 (0, 0)) (by (with_reducible repeat (first | refine blk_drewN ?_ _ | refine blk_drew ?_ | refine blk_alloc ?_ _)); refine blk_far ?_ NB374_376.out _; (with_reducible repeat (first | refine blk_drewN ?_ _ | refine blk_drew ?_ | refine blk_alloc ?_ _)); refine blk_far ?_ NB374_376.out _; (with_reducible repeat (first | refine blk_drewN ?_ _ | refine blk_drew ?_ | refine blk_alloc ?_ _)); refine blk_far ?_ NB374_376.out _; (with_reducible repeat (first | refine blk_drewN ?_ _ | refine blk_drew ?_ | refine blk_alloc ?_ _)); refine blk_far ?_ NB374_376.out _; (with_reducible repeat (first | refine blk_drewN ?_ _ | refine blk_drew ?_ | refine blk_alloc ?_ _)); refine blk_far ?_ NB374_376.out _; (with_reducible repeat (first | refine blk_drewN ?_ _ | refine blk_drew ?_ | refine blk_alloc ?_ _)); refine blk_far ?_ NB374_376.out _; (with_reducible repeat (first | refine blk_drewN ?_ _ | refine blk_drew ?_ | refine blk_alloc ?_ _)); refine blk_far ?_ NB374_376.out _; (with_reducible repeat (first | refine blk_drewN ?_ _ | refine blk_drew ?_ | refine blk_alloc ?_ _)); refine blk_far ?_ NB374_376.out _; (with_reducible repeat (first | refine blk_drewN ?_ _ | refine blk_drew ?_ | refine blk_alloc ?_ _)); refine blk_far ?_ NB374_376.out _; (with_reducible repeat (first | refine blk_drewN ?_ _ | refine blk_drew ?_ | refine blk_alloc ?_ _)); refine blk_far ?_ NB374_376.out _; (with_reducible repeat (first | refine blk_drewN ?_ _ | refine blk_drew ?_ | refine blk_alloc ?_ _)); refine blk_far ?_ NB374_376.out _; (with_reducible repeat (first | refine blk_drewN ?_ _ | refine blk_drew ?_ | refine blk_alloc ?_ _)); exact BK374.out) hb); have n2_ := aA (blk_below (g := gb376) (o := .cells #[.int .i64 t375, .slice none 0 0, .int .i64 0, .int .i64 0, .int .i64 0, .int .i64 0, .int .i64 0, .slice none 0 0, .int .i64 0, .int .i64 0, .slice none 0 0] 50 (0, 0)) (by (with_reducible repeat (first | refine blk_drewN ?_ _ | refine blk_drew ?_ | refine blk_alloc ?_ _)); have h_ := BK376.out; exact pK 10 (pK 9 (pK 8 (pK 7 (pK 6 (pK 5 (pK 4 (pK 3 (pK 2 (pK 1 (pK 0 (h_)))))))))))) hb); have n3_ := aA (below_step (mD2 GE374.out GE376.out) hb); clear BK374 BK376 HB; have HO384 := n0_; have BK374 := n1_; have BK376 := n2_; have HB := n3_; clear n0_ n1_ n2_ n3_; (try clear hb); (try clear hb2); (try clear hk); (try clear hi); (try clear ho0); obtain ⟨Ao16, co16, eo16⟩ := Kd.R_slice HO384.out; subst eo16; have hnb17 := NB376_374.out; have hnc17 := NB374_376.out; obtain ⟨hcz18_0, hcz18_1, hcz18_2, hcz18_3, hcz18_4, hcz18_5, hcz18_6, hcz18_7, hcz18_8, hcz18_9, hcz18_10⟩ := bC11 BK376.out; obtain ⟨hfz18_0, hfz18_1, hfz18_2, hfz18_3, hfz18_4, hfz18_5, hfz18_6, hfz18_7, hfz18_8, hfz18_9, hfz18_10⟩ := bF11 BK376.out))
   go_meet
   case rel => exact ⟨_, (t382), (t377), (t378), (t379), (t381), (t380), (.slice Ao16 t382.length co16), H', ⟨by first | omega | exact Nat.le_refl _⟩, ⟨by (with_reducible repeat (first | apply Kd.R_alloc | apply Kd.R_drewN | apply Kd.R_drew)); exact Kd.R_mono (rF 6 (rF 5 (rF 4 (rF 3 (rF 2 (rF 1 (Kd.R_types HO384.out BK376.out (by decide)))))))) (fun _ hk => trivial)⟩, ⟨by (with_reducible repeat (first | refine blk_drewN ?_ _ | refine blk_drew ?_ | refine blk_alloc ?_ _)); refine blk_far ?_ NB374_376.out _; (with_reducible repeat (first | refine blk_drewN ?_ _ | refine blk_drew ?_ | refine blk_alloc ?_ _)); refine blk_far ?_ NB374_376.out _; (with_reducible repeat (first | refine blk_drewN ?_ _ | refine blk_drew ?_ | refine blk_alloc ?_ _)); refine blk_far ?_ NB374_376.out _; (with_reducible repeat (first | refine blk_drewN ?_ _ | refine blk_drew ?_ | refine blk_alloc ?_ _)); refine blk_far ?_ NB374_376.out _; (with_reducible repeat (first | refine blk_drewN ?_ _ | refine blk_drew ?_ | refine blk_alloc ?_ _)); refine blk_far ?_ NB374_376.out _; (with_reducible repeat (first | refine blk_drewN ?_ _ | refine blk_drew ?_ | refine blk_alloc ?_ _)); refine blk_far ?_ NB374_376.out _; (with_reducible repeat (first | refine blk_drewN ?_ _ | refine blk_drew ?_ | refine blk_alloc ?_ _)); exact BK374.out⟩, ⟨by (with_reducible repeat (first | refine blk_drewN ?_ _ | refine blk_drew ?_ | refine blk_alloc ?_ _)); refine blk_put (cs := #[.int .i64 t375, .slice Ao16 t382.length co16, .int .i64 t377, .int .i64 t378, .int .i64 t379, .int .i64 t381, .int .i64 0, .slice none 0 0, .int .i64 0, .int .i64 0, .slice none 0 0]) ?_ 6 _ rfl; (with_reducible repeat (first | refine blk_drewN ?_ _ | refine blk_drew ?_ | refine blk_alloc ?_ _)); refine blk_put (cs := #[.int .i64 t375, .slice Ao16 t382.length co16, .int .i64 t377, .int .i64 t378, .int .i64 t379, .int .i64 0, .int .i64 0, .slice none 0 0, .int .i64 0, .int .i64 0, .slice none 0 0]) ?_ 5 _ rfl; (with_reducible repeat (first | refine blk_drewN ?_ _ | refine blk_drew ?_ | refine blk_alloc ?_ _)); refine blk_put (cs := #[.int .i64 t375, .slice Ao16 t382.length co16, .int .i64 t377, .int .i64 t378, .int .i64 0, .int .i64 0, .int .i64 0, .slice none 0 0, .int .i64 0, .int .i64 0, .slice none 0 0]) ?_ 4 _ rfl; (with_reducible repeat (first | refine blk_drewN ?_ _ | refine blk_drew ?_ | refine blk_alloc ?_ _)); refine blk_put (cs := #[.int .i64 t375, .slice Ao16 t382.length co16, .int .i64 t377, .int .i64 0, .int .i64 0, .int .i64 0, .int .i64 0, .slice none 0 0, .int .i64 0, .int .i64 0, .slice none 0 0]) ?_ 3 _ rfl; (with_reducible repeat (first | refine blk_drewN ?_ _ | refine blk_drew ?_ | refine blk_alloc ?_ _)); refine blk_put (cs := #[.int .i64 t375, .slice Ao16 t382.length co16, .int .i64 0, .int .i64 0, .int .i64 0, .int .i64 0, .int .i64 0, .slice none 0 0, .int .i64 0, .int .i64 0, .slice none 0 0]) ?_ 2 _ rfl; (with_reducible repeat (first | refine blk_drewN ?_ _ | refine blk_drew ?_ | refine blk_alloc ?_ _)); refine blk_put (cs := #[.int .i64 t375, .slice none 0 0, .int .i64 0, .int .i64 0, .int .i64 0, .int .i64 0, .int .i64 0, .slice none 0 0, .int .i64 0, .int .i64 0, .slice none 0 0]) ?_ 1 _ rfl; (with_reducible repeat (first | refine blk_drewN ?_ _ | refine blk_drew ?_ | refine blk_alloc ?_ _)); exact BK376.out⟩, ⟨by repeat (first | (with_reducible first | exact HB.out | apply below_alloc | apply pw_below_drewN | apply below_drew1 | refine below_set ?_ GE374.out | refine below_set ?_ GE376.out) | exact HB.out)⟩⟩
  ·rw [if_neg c8] at H
   have c8b0 : (t375 == 1) = false := beq_eq_false_iff_ne.mpr c8
   have c8b1 : (t375 != 1) = true := bne_iff_ne.mpr c8
   (first | rw [c8b0] | (simp only [i64_w, i32_w]; rw [c8b0]) | skip)
   have H' := aA H
   clear H
   go_wp2
   go_meet
   case rel => exact ⟨_, (([] : List (S41))), (0), (0), (0), (0), (0), (.slice none 0 0), H', ⟨by first | omega | exact Nat.le_refl _⟩, ⟨by first | exact Kd.R_nil _ _ _ _ _ | exact Kd.N_nil _ _ _ _ _ | exact Kd.V_nil _ _ _ _ _ | exact Kd.Q_nil _ _ _ _ _ | exact Kd.S_nil _ _ _ _ _⟩, ⟨by (with_reducible repeat (first | refine blk_drewN ?_ _ | refine blk_drew ?_ | refine blk_alloc ?_ _)); refine blk_far ?_ NB374_376.out _; (with_reducible repeat (first | refine blk_drewN ?_ _ | refine blk_drew ?_ | refine blk_alloc ?_ _)); refine blk_far ?_ NB374_376.out _; (with_reducible repeat (first | refine blk_drewN ?_ _ | refine blk_drew ?_ | refine blk_alloc ?_ _)); refine blk_far ?_ NB374_376.out _; (with_reducible repeat (first | refine blk_drewN ?_ _ | refine blk_drew ?_ | refine blk_alloc ?_ _)); refine blk_far ?_ NB374_376.out _; (with_reducible repeat (first | refine blk_drewN ?_ _ | refine blk_drew ?_ | refine blk_alloc ?_ _)); refine blk_far ?_ NB374_376.out _; (with_reducible repeat (first | refine blk_drewN ?_ _ | refine blk_drew ?_ | refine blk_alloc ?_ _)); refine blk_far ?_ NB374_376.out _; (with_reducible repeat (first | refine blk_drewN ?_ _ | refine blk_drew ?_ | refine blk_alloc ?_ _)); refine blk_far ?_ NB374_376.out _; (with_reducible repeat (first | refine blk_drewN ?_ _ | refine blk_drew ?_ | refine blk_alloc ?_ _)); refine blk_far ?_ NB374_376.out _; (with_reducible repeat (first | refine blk_drewN ?_ _ | refine blk_drew ?_ | refine blk_alloc ?_ _)); refine blk_far ?_ NB374_376.out _; (with_reducible repeat (first | refine blk_drewN ?_ _ | refine blk_drew ?_ | refine blk_alloc ?_ _)); refine blk_far ?_ NB374_376.out _; (with_reducible repeat (first | refine blk_drewN ?_ _ | refine blk_drew ?_ | refine blk_alloc ?_ _)); refine blk_far ?_ NB374_376.out _; (with_reducible repeat (first | refine blk_drewN ?_ _ | refine blk_drew ?_ | refine blk_alloc ?_ _)); exact BK374.out⟩, ⟨by (with_reducible repeat (first | refine blk_drewN ?_ _ | refine blk_drew ?_ | refine blk_alloc ?_ _)); refine blk_put (cs := #[.int .i64 t375, .slice none 0 0, .int .i64 0, .int .i64 0, .int .i64 0, .int .i64 0, .int .i64 0, .slice none 0 0, .int .i64 0, .int .i64 0, .slice none 0 0]) ?_ 10 _ rfl; (with_reducible repeat (first | refine blk_drewN ?_ _ | refine blk_drew ?_ | refine blk_alloc ?_ _)); refine blk_put (cs := #[.int .i64 t375, .slice none 0 0, .int .i64 0, .int .i64 0, .int .i64 0, .int .i64 0, .int .i64 0, .slice none 0 0, .int .i64 0, .int .i64 0, .slice none 0 0]) ?_ 9 _ rfl; (with_reducible repeat (first | refine blk_drewN ?_ _ | refine blk_drew ?_ | refine blk_alloc ?_ _)); refine blk_put (cs := #[.int .i64 t375, .slice none 0 0, .int .i64 0, .int .i64 0, .int .i64 0, .int .i64 0, .int .i64 0, .slice none 0 0, .int .i64 0, .int .i64 0, .slice none 0 0]) ?_ 8 _ rfl; (with_reducible repeat (first | refine blk_drewN ?_ _ | refine blk_drew ?_ | refine blk_alloc ?_ _)); refine blk_put (cs := #[.int .i64 t375, .slice none 0 0, .int .i64 0, .int .i64 0, .int .i64 0, .int .i64 0, .int .i64 0, .slice none 0 0, .int .i64 0, .int .i64 0, .slice none 0 0]) ?_ 7 _ rfl; (with_reducible repeat (first | refine blk_drewN ?_ _ | refine blk_drew ?_ | refine blk_alloc ?_ _)); refine blk_put (cs := #[.int .i64 t375, .slice none 0 0, .int .i64 0, .int .i64 0, .int .i64 0, .int .i64 0, .int .i64 0, .slice none 0 0, .int .i64 0, .int .i64 0, .slice none 0 0]) ?_ 6 _ rfl; (with_reducible repeat (first | refine blk_drewN ?_ _ | refine blk_drew ?_ | refine blk_alloc ?_ _)); refine blk_put (cs := #[.int .i64 t375, .slice none 0 0, .int .i64 0, .int .i64 0, .int .i64 0, .int .i64 0, .int .i64 0, .slice none 0 0, .int .i64 0, .int .i64 0, .slice none 0 0]) ?_ 5 _ rfl; (with_reducible repeat (first | refine blk_drewN ?_ _ | refine blk_drew ?_ | refine blk_alloc ?_ _)); refine blk_put (cs := #[.int .i64 t375, .slice none 0 0, .int .i64 0, .int .i64 0, .int .i64 0, .int .i64 0, .int .i64 0, .slice none 0 0, .int .i64 0, .int .i64 0, .slice none 0 0]) ?_ 4 _ rfl; (with_reducible repeat (first | refine blk_drewN ?_ _ | refine blk_drew ?_ | refine blk_alloc ?_ _)); refine blk_put (cs := #[.int .i64 t375, .slice none 0 0, .int .i64 0, .int .i64 0, .int .i64 0, .int .i64 0, .int .i64 0, .slice none 0 0, .int .i64 0, .int .i64 0, .slice none 0 0]) ?_ 3 _ rfl; (with_reducible repeat (first | refine blk_drewN ?_ _ | refine blk_drew ?_ | refine blk_alloc ?_ _)); refine blk_put (cs := #[.int .i64 t375, .slice none 0 0, .int .i64 0, .int .i64 0, .int .i64 0, .int .i64 0, .int .i64 0, .slice none 0 0, .int .i64 0, .int .i64 0, .slice none 0 0]) ?_ 2 _ rfl; (with_reducible repeat (first | refine blk_drewN ?_ _ | refine blk_drew ?_ | refine blk_alloc ?_ _)); refine blk_put (cs := #[.int .i64 t375, .slice none 0 0, .int .i64 0, .int .i64 0, .int .i64 0, .int .i64 0, .int .i64 0, .slice none 0 0, .int .i64 0, .int .i64 0, .slice none 0 0]) ?_ 1 _ rfl; (with_reducible repeat (first | refine blk_drewN ?_ _ | refine blk_drew ?_ | refine blk_alloc ?_ _)); refine blk_put (cs := #[.int .i64 0, .slice none 0 0, .int .i64 0, .int .i64 0, .int .i64 0, .int .i64 0, .int .i64 0, .slice none 0 0, .int .i64 0, .int .i64 0, .slice none 0 0]) ?_ 0 _ rfl; (with_reducible repeat (first | refine blk_drewN ?_ _ | refine blk_drew ?_ | refine blk_alloc ?_ _)); exact BK376.out⟩, ⟨by repeat (first | (with_reducible first | exact HB.out | apply below_alloc | apply pw_below_drewN | apply below_drew1 | refine below_set ?_ GE374.out | refine below_set ?_ GE376.out) | exact HB.out)⟩⟩
 case rest =>
  clear HC3
  try clear c1
  try clear p2
  try clear c3
  try clear c6
  try clear c8
  try clear c8b0
  try clear c8b1
  try clear c17
  try clear hcz18_0
  try clear hcz18_1
  try clear hcz18_10
  try clear hcz18_2
  try clear hcz18_3
  try clear hcz18_4
  try clear hcz18_5
  try clear hcz18_6
  try clear hcz18_7
  try clear hcz18_8
  try clear hcz18_9
  try clear hcz7_0
  try clear hcz7_1
  try clear hcz7_10
  try clear hcz7_2
  try clear hcz7_3
  try clear hcz7_4
  try clear hcz7_5
  try clear hcz7_6
  try clear hcz7_7
  try clear hcz7_8
  try clear hcz7_9
  try clear hfz18_0
  try clear hfz18_1
  try clear hfz18_10
  try clear hfz18_2
  try clear hfz18_3
  try clear hfz18_4
  try clear hfz18_5
  try clear hfz18_6
  try clear hfz18_7
  try clear hfz18_8
  try clear hfz18_9
  try clear hfz7_0
  try clear hfz7_1
  try clear hfz7_10
  try clear hfz7_2
  try clear hfz7_3
  try clear hfz7_4
  try clear hfz7_5
  try clear hfz7_6
  try clear hfz7_7
  try clear hfz7_8
  try clear hfz7_9
  obtain ⟨kq, x377001_2, x377002_2, x377003_2, x377004_2, x377005_2, x377006_2, u377001, HA, HJ2, HO_377001, BK374, BK376, HB⟩ := hcut
  cases kq with
  | zero => exact absurd HA.out (by simp [foghornref17_Get.j0])
  | succ kj2 =>
   have H := HA.out
   clear HA
   simp only [foghornref17_Get.j0] at H
   have HC19 := aA H
   clear H
   have hnb20 := NB376_374.out
   have hnc20 := NB374_376.out
   obtain ⟨hcz21_0, hcz21_1, hcz21_2, hcz21_3, hcz21_4, hcz21_5, hcz21_6, hcz21_7, hcz21_8, hcz21_9, hcz21_10⟩ := bC11 BK376.out
   obtain ⟨hfz21_0, hfz21_1, hfz21_2, hfz21_3, hfz21_4, hfz21_5, hfz21_6, hfz21_7, hfz21_8, hfz21_9, hfz21_10⟩ := bF11 BK376.out
   go_upto_if 27 with (fail)
   go_cut [] (fun wc => ∃ (kq : Nat) (x377007_18 : List (S41)) (u377007 : Value), Aside0 (foghornref17_Get.j1 kq a0 t375 x377001_2 x377002_2 x377003_2 x377004_2 x377005_2 x377006_2 x377007_18 0 0 = some (r1, r2, r3, r4, r5, r6, r7, r8, r9, r10, r11, r12)) ∧ Aside0 (kq ≤ kj2) ∧ Aside0 (Kd.R k41 41 wc w.heap.size (fun k_ => some k_ ≠ (u377007 : Value).ownBlock) u377001 x377001_2) ∧ Aside0 (Kd.R k41 41 wc w.heap.size (fun k_ => some k_ ≠ (u377001 : Value).ownBlock) u377007 x377007_18) ∧ Aside0 (wc.heap[gb374]? = some (.cells #[.int .i64 0, (.slice none 0 0), .int .i64 0, .int .i64 0, .int .i64 0, .int .i64 0, .int .i64 0, (.slice none 0 0), .int .i64 0, .int .i64 0, (.slice none 0 0)] 50 (0, 0))) ∧ Aside0 (wc.heap[gb376]? = some (.cells #[.int .i64 t375, u377001, .int .i64 x377002_2, .int .i64 x377003_2, .int .i64 x377004_2, .int .i64 x377005_2, .int .i64 x377006_2, u377007, .int .i64 0, .int .i64 0, (.slice none 0 0)] 50 (0, 0))) ∧ Aside0 (Below w.heap.size w wc))
   case first =>
    have H := HC19.out
    clear HC19
    by_cases c22 : t375 = 2
    ·rw [if_pos c22] at H
     have c22b0 : (t375 == 2) = true := beq_iff_eq.mpr c22
     have c22b1 : (t375 != 2) = false := bne_eq_false_iff_eq.mpr c22
     clear c22
     (first | rw [c22b0] | (simp only [i64_w, i32_w]; rw [c22b0]) | skip)
     replace H := Option.bind_eq_some_iff.mp H
     obtain ⟨t385, A230, H⟩ := H
     replace H : (foghornref17_Get.j1 kj2 a0 t375 x377001_2 x377002_2 x377003_2 x377004_2 x377005_2 x377006_2 t385 0 0) = some (r1, r2, r3, r4, r5, r6, r7, r8, r9, r10, r11, r12) := H
     have A23 := aA A230
     clear A230
     have H' := aA H
     clear H
     go_wp2_with (first | ((with_reducible refine gate_callee (f := 67) rfl ?_); refine goesL_ (some 29) rfl rfl Try.func67 (by kernel_rfl) rfl #[.string a0, .int .i64 1] rfl mS ?_; (with_reducible refine (foghornref17_some.calls kj2 a0 1 t385 _ A23.out).mono ?_); rintro e w24 ⟨v386, rfl, ho0, hb⟩; refine ⟨_, rfl, ?_⟩; have n0_ := aA (Kd.R_elder' (mR HO_377001.out) (Kd.R_base ho0) hb); have n1_ := aA (Kd.R_lower (Kd.R_new' ho0 (Kd.R_lt (mR HO_377001.out))) (below_size (mD2 GE374.out GE376.out))); have n2_ := aA (bB BK374.out hb); have n3_ := aA (bB BK376.out hb); have n4_ := aA (below_step (mD2 GE374.out GE376.out) hb); clear HO_377001 BK374 BK376 HB; have HO_377001 := n0_; have HO387 := n1_; have BK374 := n2_; have BK376 := n3_; have HB := n4_; clear n0_ n1_ n2_ n3_ n4_; (try clear hb); (try clear hb2); (try clear hk); (try clear hi); (try clear ho0); obtain ⟨Ao25, co25, eo25⟩ := Kd.R_slice HO387.out; subst eo25; have hnb26 := NB376_374.out; have hnc26 := NB374_376.out; obtain ⟨hcz27_0, hcz27_1, hcz27_2, hcz27_3, hcz27_4, hcz27_5, hcz27_6, hcz27_7, hcz27_8, hcz27_9, hcz27_10⟩ := bC11 BK376.out; obtain ⟨hfz27_0, hfz27_1, hfz27_2, hfz27_3, hfz27_4, hfz27_5, hfz27_6, hfz27_7, hfz27_8, hfz27_9, hfz27_10⟩ := bF11 BK376.out))
     go_meet
     case rel => exact ⟨_, (t385), (.slice Ao25 t385.length co25), H', ⟨by have := HJ2.out; first | omega | exact Nat.le_refl _⟩, ⟨by (with_reducible repeat (first | apply Kd.R_alloc | apply Kd.R_drewN | apply Kd.R_drew)); exact Kd.R_mono (rF 7 (Kd.R_types HO_377001.out BK376.out (by decide))) (fun _ hk => hk.1.2)⟩, ⟨by (with_reducible repeat (first | apply Kd.R_alloc | apply Kd.R_drewN | apply Kd.R_drew)); exact Kd.R_mono (rF 7 (Kd.R_types HO387.out BK376.out (by decide))) (fun _ hk => hk.1.2)⟩, ⟨by (with_reducible repeat (first | refine blk_drewN ?_ _ | refine blk_drew ?_ | refine blk_alloc ?_ _)); refine blk_far ?_ NB374_376.out _; (with_reducible repeat (first | refine blk_drewN ?_ _ | refine blk_drew ?_ | refine blk_alloc ?_ _)); exact BK374.out⟩, ⟨by (with_reducible repeat (first | refine blk_drewN ?_ _ | refine blk_drew ?_ | refine blk_alloc ?_ _)); refine blk_put (cs := #[.int .i64 t375, u377001, .int .i64 x377002_2, .int .i64 x377003_2, .int .i64 x377004_2, .int .i64 x377005_2, .int .i64 x377006_2, .slice none 0 0, .int .i64 0, .int .i64 0, .slice none 0 0]) ?_ 7 _ rfl; (with_reducible repeat (first | refine blk_drewN ?_ _ | refine blk_drew ?_ | refine blk_alloc ?_ _)); exact BK376.out⟩, ⟨by repeat (first | (with_reducible first | exact HB.out | apply below_alloc | apply pw_below_drewN | apply below_drew1 | refine below_set ?_ GE374.out | refine below_set ?_ GE376.out) | exact HB.out)⟩⟩
    ·rw [if_neg c22] at H
     have c22b0 : (t375 == 2) = false := beq_eq_false_iff_ne.mpr c22
     have c22b1 : (t375 != 2) = true := bne_iff_ne.mpr c22
     (first | rw [c22b0] | (simp only [i64_w, i32_w]; rw [c22b0]) | skip)
     have H' := aA H
     clear H
     go_wp2
     go_meet
     case rel => exact ⟨_, (([] : List (S41))), (.slice none 0 0), H', ⟨by have := HJ2.out; first | omega | exact Nat.le_refl _⟩, ⟨by (with_reducible repeat (first | apply Kd.R_alloc | apply Kd.R_drewN | apply Kd.R_drew)); exact Kd.R_mono HO_377001.out (fun _ hk => (by simp [Value.ownBlock]))⟩, ⟨by first | exact Kd.R_nil _ _ _ _ _ | exact Kd.N_nil _ _ _ _ _ | exact Kd.V_nil _ _ _ _ _ | exact Kd.Q_nil _ _ _ _ _ | exact Kd.S_nil _ _ _ _ _⟩, ⟨by (with_reducible repeat (first | refine blk_drewN ?_ _ | refine blk_drew ?_ | refine blk_alloc ?_ _)); exact BK374.out⟩, ⟨by (with_reducible repeat (first | refine blk_drewN ?_ _ | refine blk_drew ?_ | refine blk_alloc ?_ _)); exact BK376.out⟩, ⟨by repeat (first | (with_reducible first | exact HB.out | apply below_alloc | apply pw_below_drewN | apply below_drew1 | refine below_set ?_ GE374.out | refine below_set ?_ GE376.out) | exact HB.out)⟩⟩
   case rest =>
    clear HC19
    try clear c1
    try clear c2
    try clear p2
    try clear c3
    try clear c6
    try clear c8
    try clear c8b0
    try clear c8b1
    try clear c17
    try clear c20
    try clear c22
    try clear c22b0
    try clear c22b1
    try clear c26
    try clear hcz18_0
    try clear hcz18_1
    try clear hcz18_10
    try clear hcz18_2
    try clear hcz18_3
    try clear hcz18_4
    try clear hcz18_5
    try clear hcz18_6
    try clear hcz18_7
    try clear hcz18_8
    try clear hcz18_9
    try clear hcz21_0
    try clear hcz21_1
    try clear hcz21_10
    try clear hcz21_2
    try clear hcz21_3
    try clear hcz21_4
    try clear hcz21_5
    try clear hcz21_6
    try clear hcz21_7
    try clear hcz21_8
    try clear hcz21_9
    try clear hcz27_0
    try clear hcz27_1
    try clear hcz27_10
    try clear hcz27_2
    try clear hcz27_3
    try clear hcz27_4
    try clear hcz27_5
    try clear hcz27_6
    try clear hcz27_7
    try clear hcz27_8
    try clear hcz27_9
    try clear hcz7_0
    try clear hcz7_1
    try clear hcz7_10
    try clear hcz7_2
    try clear hcz7_3
    try clear hcz7_4
    try clear hcz7_5
    try clear hcz7_6
    try clear hcz7_7
    try clear hcz7_8
    try clear hcz7_9
    try clear hfz18_0
    try clear hfz18_1
    try clear hfz18_10
    try clear hfz18_2
    try clear hfz18_3
    try clear hfz18_4
    try clear hfz18_5
    try clear hfz18_6
    try clear hfz18_7
    try clear hfz18_8
    try clear hfz18_9
    try clear hfz21_0
    try clear hfz21_1
    try clear hfz21_10
    try clear hfz21_2
    try clear hfz21_3
    try clear hfz21_4
    try clear hfz21_5
    try clear hfz21_6
    try clear hfz21_7
    try clear hfz21_8
    try clear hfz21_9
    try clear hfz27_0
    try clear hfz27_1
    try clear hfz27_10
    try clear hfz27_2
    try clear hfz27_3
    try clear hfz27_4
    try clear hfz27_5
    try clear hfz27_6
    try clear hfz27_7
    try clear hfz27_8
    try clear hfz27_9
    try clear hfz7_0
    try clear hfz7_1
    try clear hfz7_10
    try clear hfz7_2
    try clear hfz7_3
    try clear hfz7_4
    try clear hfz7_5
    try clear hfz7_6
    try clear hfz7_7
    try clear hfz7_8
    try clear hfz7_9
    try clear p2
    obtain ⟨kq, x377007_18, u377007, HA, HJ18, HO_377001, HO_377007, BK374, BK376, HB⟩ := hcut
    cases kq with
    | zero => exact absurd HA.out (by simp [foghornref17_Get.j1])
    | succ kj18 =>
     have H := HA.out
     clear HA
     simp only [foghornref17_Get.j1] at H
     by_cases c28 : t375 = 3
     ·rw [if_pos c28] at H
      have c28b0 : (t375 == 3) = true := beq_iff_eq.mpr c28
      have c28b1 : (t375 != 3) = false := bne_eq_false_iff_eq.mpr c28
      clear c28
      replace H := Option.bind_eq_some_iff.mp H
      obtain ⟨t388, A290, H⟩ := H
      replace H : ((foghornref17_time.f kj18 a0 7).bind fun t389 => ((foghornref17_asked.f kj18 a0 13).bind fun t390 => ((foghornref17_Right.f kj18 t375 x377001_2 x377002_2 x377003_2 x377004_2 x377005_2 x377006_2 x377007_18 t388 t389 t390).bind fun t393 => (if t393 = true then ((foghornref17_Put.f kj18 t375 x377001_2 x377002_2 x377003_2 x377004_2 x377005_2 x377006_2 x377007_18 t388 t389 t390).bind fun t394 => (some (t375, x377001_2, x377002_2, x377003_2, x377004_2, x377005_2, x377006_2, x377007_18, t388, t389, t390, (t394.toList == a0.toList)))) else (some (t375, x377001_2, x377002_2, x377003_2, x377004_2, x377005_2, x377006_2, x377007_18, t388, t389, t390, false)))))) = some (r1, r2, r3, r4, r5, r6, r7, r8, r9, r10, r11, r12) := H
      have A29 := aA A290
      clear A290
      replace H := Option.bind_eq_some_iff.mp H
      obtain ⟨t389, A300, H⟩ := H
      replace H : ((foghornref17_asked.f kj18 a0 13).bind fun t390 => ((foghornref17_Right.f kj18 t375 x377001_2 x377002_2 x377003_2 x377004_2 x377005_2 x377006_2 x377007_18 t388 t389 t390).bind fun t393 => (if t393 = true then ((foghornref17_Put.f kj18 t375 x377001_2 x377002_2 x377003_2 x377004_2 x377005_2 x377006_2 x377007_18 t388 t389 t390).bind fun t394 => (some (t375, x377001_2, x377002_2, x377003_2, x377004_2, x377005_2, x377006_2, x377007_18, t388, t389, t390, (t394.toList == a0.toList)))) else (some (t375, x377001_2, x377002_2, x377003_2, x377004_2, x377005_2, x377006_2, x377007_18, t388, t389, t390, false))))) = some (r1, r2, r3, r4, r5, r6, r7, r8, r9, r10, r11, r12) := H
      have A30 := aA A300
      clear A300
      replace H := Option.bind_eq_some_iff.mp H
      obtain ⟨t390, A310, H⟩ := H
      replace H : ((foghornref17_Right.f kj18 t375 x377001_2 x377002_2 x377003_2 x377004_2 x377005_2 x377006_2 x377007_18 t388 t389 t390).bind fun t393 => (if t393 = true then ((foghornref17_Put.f kj18 t375 x377001_2 x377002_2 x377003_2 x377004_2 x377005_2 x377006_2 x377007_18 t388 t389 t390).bind fun t394 => (some (t375, x377001_2, x377002_2, x377003_2, x377004_2, x377005_2, x377006_2, x377007_18, t388, t389, t390, (t394.toList == a0.toList)))) else (some (t375, x377001_2, x377002_2, x377003_2, x377004_2, x377005_2, x377006_2, x377007_18, t388, t389, t390, false)))) = some (r1, r2, r3, r4, r5, r6, r7, r8, r9, r10, r11, r12) := H
      have A31 := aA A310
      clear A310
      replace H := Option.bind_eq_some_iff.mp H
      obtain ⟨t393, A320, H⟩ := H
      replace H : (if t393 = true then ((foghornref17_Put.f kj18 t375 x377001_2 x377002_2 x377003_2 x377004_2 x377005_2 x377006_2 x377007_18 t388 t389 t390).bind fun t394 => (some (t375, x377001_2, x377002_2, x377003_2, x377004_2, x377005_2, x377006_2, x377007_18, t388, t389, t390, (t394.toList == a0.toList)))) else (some (t375, x377001_2, x377002_2, x377003_2, x377004_2, x377005_2, x377006_2, x377007_18, t388, t389, t390, false))) = some (r1, r2, r3, r4, r5, r6, r7, r8, r9, r10, r11, r12) := H
      have A32 := aA A320
      clear A320
      by_cases c33 : t393 = true
      ·subst c33
       have H1 : ((foghornref17_Put.f kj18 t375 x377001_2 x377002_2 x377003_2 x377004_2 x377005_2 x377006_2 x377007_18 t388 t389 t390).bind fun t394 => (some (t375, x377001_2, x377002_2, x377003_2, x377004_2, x377005_2, x377006_2, x377007_18, t388, t389, t390, (t394.toList == a0.toList)))) = some (r1, r2, r3, r4, r5, r6, r7, r8, r9, r10, r11, r12) := by rw [if_pos rfl] at H; exact H
       clear H
       have H := H1
       clear H1
       replace H := Option.bind_eq_some_iff.mp H
       obtain ⟨t394, A340, H⟩ := H
       replace H : (some (t375, x377001_2, x377002_2, x377003_2, x377004_2, x377005_2, x377006_2, x377007_18, t388, t389, t390, (t394.toList == a0.toList))) = some (r1, r2, r3, r4, r5, r6, r7, r8, r9, r10, r11, r12) := H
       have A34 := aA A340
       clear A340
       simp only [Option.some.injEq, Prod.mk.injEq] at H
       obtain ⟨rfl, rfl, rfl, rfl, rfl, rfl, rfl, rfl, rfl, rfl, rfl, rfl⟩ := H
       have hnb35 := NB376_374.out
       have hnc35 := NB374_376.out
       obtain ⟨hcz36_0, hcz36_1, hcz36_2, hcz36_3, hcz36_4, hcz36_5, hcz36_6, hcz36_7, hcz36_8, hcz36_9, hcz36_10⟩ := bC11 BK376.out
       obtain ⟨hfz36_0, hfz36_1, hfz36_2, hfz36_3, hfz36_4, hfz36_5, hfz36_6, hfz36_7, hfz36_8, hfz36_9, hfz36_10⟩ := bF11 BK376.out
       try go_wp2_with (first | ((with_reducible refine gate_callee (f := 66) rfl ?_); refine goesL_ (some 35) rfl rfl Try.func66 (by kernel_rfl) rfl #[.string a0, .int .i64 1] rfl mS ?_; (with_reducible refine (foghornref17_time.calls kj18 a0 1 t388 _ A29.out).mono ?_); rintro e w' ⟨rfl, ⟨nd, rfl⟩⟩; refine ⟨_, rfl, ?_⟩; (try (rw [drewN_self wc]; generalize hq_ : World.drewN wc _ = wc; have n0_ : Aside0 (Kd.R k41 41 wc w.heap.size (fun k_ => some k_ ≠ (u377007 : Value).ownBlock) u377001 x377001_2) := ⟨by rw [← hq_]; exact (mR HO_377001.out)⟩; have n1_ : Aside0 (Kd.R k41 41 wc w.heap.size (fun k_ => some k_ ≠ (u377001 : Value).ownBlock) u377007 x377007_18) := ⟨by rw [← hq_]; exact (mR HO_377007.out)⟩; have n2_ : Aside0 (wc.heap[gb374]? = some (.cells #[.int .i64 0, .slice none 0 0, .int .i64 0, .int .i64 0, .int .i64 0, .int .i64 0, .int .i64 0, .slice none 0 0, .int .i64 0, .int .i64 0, .slice none 0 0] 50 (0, 0))) := ⟨by rw [← hq_]; exact (mK BK374.out)⟩; have n3_ : Aside0 (wc.heap[gb376]? = some (.cells #[.int .i64 t375, u377001, .int .i64 x377002_2, .int .i64 x377003_2, .int .i64 x377004_2, .int .i64 x377005_2, .int .i64 x377006_2, u377007, .int .i64 0, .int .i64 0, .slice none 0 0] 50 (0, 0))) := ⟨by rw [← hq_]; exact (mK BK376.out)⟩; have n4_ : Aside0 (Below w.heap.size w wc) := ⟨by rw [← hq_]; exact (mD2 GE374.out GE376.out)⟩; clear HO_377001 HO_377007 BK374 BK376 HB hq_; have HO_377001 := n0_; have HO_377007 := n1_; have BK374 := n2_; have BK376 := n3_; have HB := n4_; clear n0_ n1_ n2_ n3_ n4_))) | ((with_reducible refine gate_callee (f := 66) rfl ?_); refine goesL_ (some 37) rfl rfl Try.func66 (by kernel_rfl) rfl #[.string a0, .int .i64 7] rfl mS ?_; (with_reducible refine (foghornref17_time.calls kj18 a0 7 t389 _ A30.out).mono ?_); rintro e w' ⟨rfl, ⟨nd, rfl⟩⟩; refine ⟨_, rfl, ?_⟩; (try (rw [drewN_self wc]; generalize hq_ : World.drewN wc _ = wc; have n0_ : Aside0 (Kd.R k41 41 wc w.heap.size (fun k_ => some k_ ≠ (u377007 : Value).ownBlock) u377001 x377001_2) := ⟨by rw [← hq_]; exact (mR HO_377001.out)⟩; have n1_ : Aside0 (Kd.R k41 41 wc w.heap.size (fun k_ => some k_ ≠ (u377001 : Value).ownBlock) u377007 x377007_18) := ⟨by rw [← hq_]; exact (mR HO_377007.out)⟩; have n2_ : Aside0 (wc.heap[gb374]? = some (.cells #[.int .i64 0, .slice none 0 0, .int .i64 0, .int .i64 0, .int .i64 0, .int .i64 0, .int .i64 0, .slice none 0 0, .int .i64 0, .int .i64 0, .slice none 0 0] 50 (0, 0))) := ⟨by rw [← hq_]; exact (mK BK374.out)⟩; have n3_ : Aside0 (wc.heap[gb376]? = some (.cells #[.int .i64 t375, u377001, .int .i64 x377002_2, .int .i64 x377003_2, .int .i64 x377004_2, .int .i64 x377005_2, .int .i64 x377006_2, u377007, .int .i64 0, .int .i64 0, .slice none 0 0] 50 (0, 0))) := ⟨by rw [← hq_]; exact (mK BK376.out)⟩; have n4_ : Aside0 (Below w.heap.size w wc) := ⟨by rw [← hq_]; exact (mD2 GE374.out GE376.out)⟩; clear HO_377001 HO_377007 BK374 BK376 HB hq_; have HO_377001 := n0_; have HO_377007 := n1_; have BK374 := n2_; have BK376 := n3_; have HB := n4_; clear n0_ n1_ n2_ n3_ n4_))) | ((with_reducible refine gate_callee (f := 68) rfl ?_); refine goesL_ (some 39) rfl rfl Try.func68 (by kernel_rfl) rfl #[.string a0, .int .i64 13] rfl mS ?_; (with_reducible refine (foghornref17_asked.calls kj18 a0 13 t390 _ A31.out).mono ?_); rintro e w37 ⟨v391, rfl, ho0, hb⟩; refine ⟨_, rfl, ?_⟩; have n0_ := aA (Kd.R_below (mR HO_377001.out) hb); have n1_ := aA (Kd.R_below (mR HO_377007.out) hb); have n2_ := aA (Kd.R_lower ho0 (below_size (mD2 GE374.out GE376.out))); have n3_ := aA (bB BK374.out hb); have n4_ := aA (bB BK376.out hb); have n5_ := aA (below_step (mD2 GE374.out GE376.out) hb); clear HO_377001 HO_377007 BK374 BK376 HB; have HO_377001 := n0_; have HO_377007 := n1_; have HO392 := n2_; have BK374 := n3_; have BK376 := n4_; have HB := n5_; clear n0_ n1_ n2_ n3_ n4_ n5_; (try clear hb); (try clear hb2); (try clear hk); (try clear hi); (try clear ho0); obtain ⟨Ao38, co38, eo38⟩ := Kd.R_slice HO392.out; subst eo38; obtain ⟨hcz39_0, hcz39_1, hcz39_2, hcz39_3, hcz39_4, hcz39_5, hcz39_6, hcz39_7, hcz39_8, hcz39_9, hcz39_10⟩ := bC11 BK376.out; obtain ⟨hfz39_0, hfz39_1, hfz39_2, hfz39_3, hfz39_4, hfz39_5, hfz39_6, hfz39_7, hfz39_8, hfz39_9, hfz39_10⟩ := bF11 BK376.out))
       have n0_ : Aside0 (Kd.R k41 41 (((w37.setCell ⟨gb376, 8, none⟩ (.int .i64 t388)).setCell ⟨gb376, 9, none⟩ (.int .i64 t389)).setCell ⟨gb376, 10, none⟩ (.slice Ao38 t390.length co38)) w.heap.size (fun k_ => some k_ ≠ (u377007 : Value).ownBlock) u377001 x377001_2) := ⟨by (with_reducible repeat (first | apply Kd.R_alloc | apply Kd.R_drewN | apply Kd.R_drew)); exact Kd.R_mono (rF 10 (rF 9 (rF 8 (Kd.R_types HO_377001.out BK376.out (by decide))))) (fun _ hk => hk.1)⟩
       have n1_ : Aside0 (Kd.R k41 41 (((w37.setCell ⟨gb376, 8, none⟩ (.int .i64 t388)).setCell ⟨gb376, 9, none⟩ (.int .i64 t389)).setCell ⟨gb376, 10, none⟩ (.slice Ao38 t390.length co38)) w.heap.size (fun k_ => some k_ ≠ (u377001 : Value).ownBlock) u377007 x377007_18) := ⟨by (with_reducible repeat (first | apply Kd.R_alloc | apply Kd.R_drewN | apply Kd.R_drew)); exact Kd.R_mono (rF 10 (rF 9 (rF 8 (Kd.R_types HO_377007.out BK376.out (by decide))))) (fun _ hk => hk.1)⟩
       have n2_ : Aside0 (Kd.R k35 35 (((w37.setCell ⟨gb376, 8, none⟩ (.int .i64 t388)).setCell ⟨gb376, 9, none⟩ (.int .i64 t389)).setCell ⟨gb376, 10, none⟩ (.slice Ao38 t390.length co38)) w.heap.size (fun _ => True) (.slice Ao38 t390.length co38) t390) := ⟨by (with_reducible repeat (first | apply Kd.R_alloc | apply Kd.R_drewN | apply Kd.R_drew)); exact Kd.R_mono (rF 10 (rF 9 (rF 8 (Kd.R_types HO392.out BK376.out (by decide))))) (fun _ hk => trivial)⟩
       have n3_ : Aside0 ((((w37.setCell ⟨gb376, 8, none⟩ (.int .i64 t388)).setCell ⟨gb376, 9, none⟩ (.int .i64 t389)).setCell ⟨gb376, 10, none⟩ (.slice Ao38 t390.length co38)).heap[gb374]? = some (.cells #[.int .i64 0, .slice none 0 0, .int .i64 0, .int .i64 0, .int .i64 0, .int .i64 0, .int .i64 0, .slice none 0 0, .int .i64 0, .int .i64 0, .slice none 0 0] 50 (0, 0))) := ⟨by (with_reducible repeat (first | refine blk_drewN ?_ _ | refine blk_drew ?_ | refine blk_alloc ?_ _)); refine blk_far ?_ NB374_376.out _; (with_reducible repeat (first | refine blk_drewN ?_ _ | refine blk_drew ?_ | refine blk_alloc ?_ _)); refine blk_far ?_ NB374_376.out _; (with_reducible repeat (first | refine blk_drewN ?_ _ | refine blk_drew ?_ | refine blk_alloc ?_ _)); refine blk_far ?_ NB374_376.out _; (with_reducible repeat (first | refine blk_drewN ?_ _ | refine blk_drew ?_ | refine blk_alloc ?_ _)); exact BK374.out⟩
       have n4_ : Aside0 ((((w37.setCell ⟨gb376, 8, none⟩ (.int .i64 t388)).setCell ⟨gb376, 9, none⟩ (.int .i64 t389)).setCell ⟨gb376, 10, none⟩ (.slice Ao38 t390.length co38)).heap[gb376]? = some (.cells #[.int .i64 t375, u377001, .int .i64 x377002_2, .int .i64 x377003_2, .int .i64 x377004_2, .int .i64 x377005_2, .int .i64 x377006_2, u377007, .int .i64 t388, .int .i64 t389, .slice Ao38 t390.length co38] 50 (0, 0))) := ⟨by (with_reducible repeat (first | refine blk_drewN ?_ _ | refine blk_drew ?_ | refine blk_alloc ?_ _)); refine blk_put (cs := #[.int .i64 t375, u377001, .int .i64 x377002_2, .int .i64 x377003_2, .int .i64 x377004_2, .int .i64 x377005_2, .int .i64 x377006_2, u377007, .int .i64 t388, .int .i64 t389, .slice none 0 0]) ?_ 10 _ rfl; (with_reducible repeat (first | refine blk_drewN ?_ _ | refine blk_drew ?_ | refine blk_alloc ?_ _)); refine blk_put (cs := #[.int .i64 t375, u377001, .int .i64 x377002_2, .int .i64 x377003_2, .int .i64 x377004_2, .int .i64 x377005_2, .int .i64 x377006_2, u377007, .int .i64 t388, .int .i64 0, .slice none 0 0]) ?_ 9 _ rfl; (with_reducible repeat (first | refine blk_drewN ?_ _ | refine blk_drew ?_ | refine blk_alloc ?_ _)); refine blk_put (cs := #[.int .i64 t375, u377001, .int .i64 x377002_2, .int .i64 x377003_2, .int .i64 x377004_2, .int .i64 x377005_2, .int .i64 x377006_2, u377007, .int .i64 0, .int .i64 0, .slice none 0 0]) ?_ 8 _ rfl; (with_reducible repeat (first | refine blk_drewN ?_ _ | refine blk_drew ?_ | refine blk_alloc ?_ _)); exact BK376.out⟩
       have n5_ : Aside0 (Below w.heap.size w (((w37.setCell ⟨gb376, 8, none⟩ (.int .i64 t388)).setCell ⟨gb376, 9, none⟩ (.int .i64 t389)).setCell ⟨gb376, 10, none⟩ (.slice Ao38 t390.length co38))) := ⟨by repeat (first | (with_reducible first | exact HB.out | apply below_alloc | apply pw_below_drewN | apply below_drew1 | refine below_set ?_ GE374.out | refine below_set ?_ GE376.out) | exact HB.out)⟩
       (try clear HO_377001)
       (try clear HO_377007)
       (try clear HO392)
       (try clear BK374)
       (try clear BK376)
       (try clear HB)
       generalize (((w37.setCell ⟨gb376, 8, none⟩ (.int .i64 t388)).setCell ⟨gb376, 9, none⟩ (.int .i64 t389)).setCell ⟨gb376, 10, none⟩ (.slice Ao38 t390.length co38)) = w40 at n0_ n1_ n2_ n3_ n4_ n5_ ⊢
       have HO_377001 := n0_
       have HO_377007 := n1_
       have HO392 := n2_
       have BK374 := n3_
       have BK376 := n4_
       have HB := n5_
       clear n0_ n1_ n2_ n3_ n4_ n5_
       have n0_ := aA (Kd.R_drew HO_377001.out)
       have n1_ := aA (Kd.R_drew HO_377007.out)
       have n2_ := aA (Kd.R_drew HO392.out)
       have n3_ := aA (blk_drew BK374.out)
       have n4_ := aA (blk_drew BK376.out)
       have n5_ := aA (below_drew1 HB.out)
       clear HO_377001
       clear HO_377007
       clear HO392
       clear BK374
       clear BK376
       clear HB
       have HO_377001 := n0_
       have HO_377007 := n1_
       have HO392 := n2_
       have BK374 := n3_
       have BK376 := n4_
       have HB := n5_
       clear n0_ n1_ n2_ n3_ n4_ n5_
       obtain ⟨Ao42, co42, eo42⟩ := Kd.R_slice HO_377001.out
       (first | subst eo42 | (injection eo42 with f1_ f2_ f3_; have f4_ := f1_.symm; have f5_ := f3_.symm; clear f1_ f2_ f3_; subst f4_; subst f5_))
       obtain ⟨Ao43, co43, eo43⟩ := Kd.R_slice HO_377007.out
       (first | subst eo43 | (injection eo43 with f1_ f2_ f3_; have f4_ := f1_.symm; have f5_ := f3_.symm; clear f1_ f2_ f3_; subst f4_; subst f5_))
       refine start_ (n := 11) (S := fun w' => w'.cell? ⟨gb376, 0, none⟩ = some (.int .i64 t375) ∧ w'.cell? ⟨gb376, 1, none⟩ = some (.slice Ao42 x377001_2.length co42) ∧ w'.cell? ⟨gb376, 2, none⟩ = some (.int .i64 x377002_2) ∧ w'.cell? ⟨gb376, 3, none⟩ = some (.int .i64 x377003_2) ∧ w'.cell? ⟨gb376, 4, none⟩ = some (.int .i64 x377004_2) ∧ w'.cell? ⟨gb376, 5, none⟩ = some (.int .i64 x377005_2) ∧ w'.cell? ⟨gb376, 6, none⟩ = some (.int .i64 x377006_2) ∧ w'.cell? ⟨gb376, 7, none⟩ = some (.slice Ao43 x377007_18.length co43) ∧ w'.cell? ⟨gb376, 8, none⟩ = some (.int .i64 t388) ∧ w'.cell? ⟨gb376, 9, none⟩ = some (.int .i64 t389) ∧ w'.cell? ⟨gb376, 10, none⟩ = some (.slice Ao38 t390.length co38)) (ds := []) #[false, false, false, false, false, false, false, false, false, false, false] (by kernel_rfl) rfl rfl (bC11 BK376.out) (fun hHeld => ?_); refine with_tabW foghornref17_Get.tab8 foghornref17_Get.bits8 (fun HT_ HW_ => ?_)
       generalize w40.drew = w41 at HO_377001 HO_377007 HO392 BK374 BK376 HB hHeld ⊢
       refine take_ (i := 0) (N := some 42) (v := ?_) (a' := ?_) #[true, false, false, false, false, false, false, false, false, false, false] rfl rfl (take_ofW HT_.out HW_.out (by kernel_rfl)) (fun _ _ _ h => h) (Or.inl ⟨by rfl, ?_⟩) hHeld ?_ ?_
       rotate_left
       ·rintro w' ⟨s0, s1, s2, s3, s4, s5, s6, s7, s8, s9, s10⟩
        go_simp
        with_reducible rfl
       rotate_left
       ·exact mP
       refine take_ (i := 1) (N := some 43) (v := ?_) (a' := ?_) #[true, true, false, false, false, false, false, false, false, false, false] rfl rfl (take_ofW HT_.out HW_.out (by kernel_rfl)) (fun _ _ _ h => h) (Or.inl ⟨by rfl, ?_⟩) hHeld ?_ ?_
       rotate_left
       ·rintro w' ⟨s0, s1, s2, s3, s4, s5, s6, s7, s8, s9, s10⟩
        go_simp
        with_reducible rfl
       rotate_left
       ·exact mP
       refine one_ (i := 2) (N := some 44) #[true, true, true, false, false, false, false, false, false, false, false] rfl rfl (one_of HT_.out (by kernel_rfl)) (by decide) (fun K hK => ?_)
       refine goes_ Try.func27 (by kernel_rfl) rfl #[.agg #[.int .i64 t375, .slice Ao42 x377001_2.length co42, .int .i64 x377002_2, .int .i64 x377003_2, .int .i64 x377004_2, .int .i64 x377005_2, .int .i64 x377006_2, .slice Ao43 x377007_18.length co43, .int .i64 t388, .int .i64 t389, .slice Ao38 t390.length co38]] (by rfl) rfl rfl mS ?_
       with_reducible refine (foghornref17_Right.calls kj18 t375 _ _ x377001_2 x377002_2 x377003_2 x377004_2 x377005_2 x377006_2 _ _ x377007_18 t388 t389 _ _ t390 true _ ?side1 ?side2 ?side3 ?side4 ?side5 ?side6 A32.out).mono ?_
       (case side1 => exact mC ((Kd.R_reads' HO_377001.out).2.2))
       (case side2 => exact (Kd.R_reads' HO_377001.out).2.1)
       (case side3 => exact mC ((Kd.R_reads' HO_377007.out).2.2))
       (case side4 => exact (Kd.R_reads' HO_377007.out).2.1)
       (case side5 => exact mC ((Kd.R_reads' HO392.out).2.2))
       (case side6 => exact (Kd.R_reads' HO392.out).2.1)
       rintro e w44 ⟨rfl, hb⟩
       refine ⟨_, rfl, ?_⟩
       have n0_ := aA (Kd.R_below (mR HO_377001.out) hb)
       have n1_ := aA (Kd.R_below (mR HO_377007.out) hb)
       have n2_ := aA (Kd.R_below (mR HO392.out) hb)
       have n3_ := aA (bB BK374.out hb)
       have n4_ := aA (bB BK376.out hb)
       have n5_ := aA (below_step (mD2 GE374.out GE376.out) hb)
       clear HO_377001
       clear HO_377007
       clear HO392
       clear BK374
       clear BK376
       clear HB
       have HO_377001 := n0_
       have HO_377007 := n1_
       have HO392 := n2_
       have BK374 := n3_
       have BK376 := n4_
       have HB := n5_
       clear n0_ n1_ n2_ n3_ n4_ n5_
       (try clear hb)
       (try clear hb2)
       (try clear hk)
       (try clear hi)
       refine hK.out _ _ (bC11 BK376.out) (fun hHeld => ?_)
       clear hK K
       refine norm_ (a' := ?_) ?_ ?_
       rotate_left
       ·show Act.put _ (some 44) _ = _
        simp only [Act.put, List.setIfInBounds_toArray, List.set_cons_zero, List.set_cons_succ, i64_w, i32_w]
        rfl
       refine pure_ (i := 3) (N := some 45) (v := ?_) (a' := ?_) #[true, true, true, true, false, false, false, false, false, false, false] rfl rfl (any_of HT_.out (by kernel_rfl)) (fun _ _ _ h => h) (Or.inl ⟨by rfl, ?_⟩) ?_ ?_
       rotate_left
       ·intro w'
        go_simp
        with_reducible rfl
       rotate_left
       ·exact mP
       refine pure_ (i := 6) (N := some 48) (v := ?_) (a' := ?_) #[true, true, true, true, false, false, true, false, false, false, false] rfl rfl (any_of HT_.out (by kernel_rfl)) (fun _ _ _ h => h) (Or.inl ⟨by rfl, ?_⟩) ?_ ?_
       rotate_left
       ·intro w'
        go_simp
        with_reducible rfl
       rotate_left
       ·exact mP
       refine take_ (i := 4) (N := some 46) (v := ?_) (a' := ?_) #[true, true, true, true, true, false, true, false, false, false, false] rfl rfl (take_ofW HT_.out HW_.out (by kernel_rfl)) (fun _ _ _ h => h) (Or.inl ⟨by rfl, ?_⟩) hHeld ?_ ?_
       rotate_left
       ·rintro w' ⟨s0, s1, s2, s3, s4, s5, s6, s7, s8, s9, s10⟩
        go_simp
        with_reducible rfl
       rotate_left
       ·exact mP
       refine one_ (i := 5) (N := some 47) #[true, true, true, true, true, true, true, false, false, false, false] rfl rfl (one_of HT_.out (by kernel_rfl)) (by decide) (fun K hK => ?_)
       refine goes_ Try.func29 (by kernel_rfl) rfl #[.agg #[.int .i64 t375, .slice Ao42 x377001_2.length co42, .int .i64 x377002_2, .int .i64 x377003_2, .int .i64 x377004_2, .int .i64 x377005_2, .int .i64 x377006_2, .slice Ao43 x377007_18.length co43, .int .i64 t388, .int .i64 t389, .slice Ao38 t390.length co38]] (by rfl) rfl rfl mS ?_
       with_reducible refine (foghornref17_Put.calls kj18 t375 _ _ x377001_2 x377002_2 x377003_2 x377004_2 x377005_2 x377006_2 _ _ x377007_18 t388 t389 _ _ t390 t394 _ ?side1 ?side2 ?side3 ?side4 ?side5 ?side6 A34.out).mono ?_
       (case side1 => exact mC ((Kd.R_reads' HO_377001.out).2.2))
       (case side2 => exact (Kd.R_reads' HO_377001.out).2.1)
       (case side3 => exact mC ((Kd.R_reads' HO_377007.out).2.2))
       (case side4 => exact (Kd.R_reads' HO_377007.out).2.1)
       (case side5 => exact mC ((Kd.R_reads' HO392.out).2.2))
       (case side6 => exact (Kd.R_reads' HO392.out).2.1)
       rintro e w45 ⟨rfl, hb⟩
       refine ⟨_, rfl, ?_⟩
       have n0_ := aA (Kd.R_below (mR HO_377001.out) hb)
       have n1_ := aA (Kd.R_below (mR HO_377007.out) hb)
       have n2_ := aA (Kd.R_below (mR HO392.out) hb)
       have n3_ := aA (bB BK374.out hb)
       have n4_ := aA (bB BK376.out hb)
       have n5_ := aA (below_step (mD2 GE374.out GE376.out) hb)
       clear HO_377001
       clear HO_377007
       clear HO392
       clear BK374
       clear BK376
       clear HB
       have HO_377001 := n0_
       have HO_377007 := n1_
       have HO392 := n2_
       have BK374 := n3_
       have BK376 := n4_
       have HB := n5_
       clear n0_ n1_ n2_ n3_ n4_ n5_
       (try clear hb)
       (try clear hb2)
       (try clear hk)
       (try clear hi)
       refine hK.out _ _ (bC11 BK376.out) (fun hHeld => ?_)
       clear hK K
       refine norm_ (a' := ?_) ?_ ?_
       rotate_left
       ·show Act.put _ (some 47) _ = _
        simp only [Act.put, List.setIfInBounds_toArray, List.set_cons_zero, List.set_cons_succ, i64_w, i32_w]
        rfl
       refine pure_ (i := 7) (N := some 49) (v := ?_) (a' := ?_) #[true, true, true, true, true, true, true, true, false, false, false] rfl rfl (any_of HT_.out (by kernel_rfl)) (fun _ _ _ h => h) (Or.inl ⟨by rfl, ?_⟩) ?_ ?_
       rotate_left
       ·intro w'
        go_simp
        with_reducible rfl
       rotate_left
       ·exact mP
       refine pure_ (i := 8) (N := some 50) (v := ?_) (a' := ?_) #[true, true, true, true, true, true, true, true, true, false, false] rfl rfl (any_of HT_.out (by kernel_rfl)) (fun _ _ _ h => h) (Or.inl ⟨by rfl, ?_⟩) ?_ ?_
       rotate_left
       ·intro w'
        go_simp
        with_reducible rfl
       rotate_left
       ·exact mP
       refine one_ (i := 9) (N := none) #[true, true, true, true, true, true, true, true, true, true, false] rfl rfl (one_of HT_.out (by kernel_rfl)) (by decide) (fun K hK => ?_)
       have hs46 : w45.cell? ⟨gb374, 0, none⟩ = some (.int .i64 0) := (blk_cell BK374.out 0).trans rfl
       have hfs46 := blk_frozen BK374.out 0
       have hns46_1 := NB376_374.out
       have hms46_1 := NB374_376.out
       have hs47 : w45.cell? ⟨gb374, 1, none⟩ = some (.slice none 0 0) := (blk_cell BK374.out 1).trans rfl
       have hfs47 := blk_frozen BK374.out 1
       have hns47_1 := NB376_374.out
       have hms47_1 := NB374_376.out
       have hs48 : w45.cell? ⟨gb374, 2, none⟩ = some (.int .i64 0) := (blk_cell BK374.out 2).trans rfl
       have hfs48 := blk_frozen BK374.out 2
       have hns48_1 := NB376_374.out
       have hms48_1 := NB374_376.out
       have hs49 : w45.cell? ⟨gb374, 3, none⟩ = some (.int .i64 0) := (blk_cell BK374.out 3).trans rfl
       have hfs49 := blk_frozen BK374.out 3
       have hns49_1 := NB376_374.out
       have hms49_1 := NB374_376.out
       have hs50 : w45.cell? ⟨gb374, 4, none⟩ = some (.int .i64 0) := (blk_cell BK374.out 4).trans rfl
       have hfs50 := blk_frozen BK374.out 4
       have hns50_1 := NB376_374.out
       have hms50_1 := NB374_376.out
       have hs51 : w45.cell? ⟨gb374, 5, none⟩ = some (.int .i64 0) := (blk_cell BK374.out 5).trans rfl
       have hfs51 := blk_frozen BK374.out 5
       have hns51_1 := NB376_374.out
       have hms51_1 := NB374_376.out
       have hs52 : w45.cell? ⟨gb374, 6, none⟩ = some (.int .i64 0) := (blk_cell BK374.out 6).trans rfl
       have hfs52 := blk_frozen BK374.out 6
       have hns52_1 := NB376_374.out
       have hms52_1 := NB374_376.out
       have hs53 : w45.cell? ⟨gb374, 7, none⟩ = some (.slice none 0 0) := (blk_cell BK374.out 7).trans rfl
       have hfs53 := blk_frozen BK374.out 7
       have hns53_1 := NB376_374.out
       have hms53_1 := NB374_376.out
       have hs54 : w45.cell? ⟨gb374, 8, none⟩ = some (.int .i64 0) := (blk_cell BK374.out 8).trans rfl
       have hfs54 := blk_frozen BK374.out 8
       have hns54_1 := NB376_374.out
       have hms54_1 := NB374_376.out
       have hs55 : w45.cell? ⟨gb374, 9, none⟩ = some (.int .i64 0) := (blk_cell BK374.out 9).trans rfl
       have hfs55 := blk_frozen BK374.out 9
       have hns55_1 := NB376_374.out
       have hms55_1 := NB374_376.out
       have hs56 : w45.cell? ⟨gb374, 10, none⟩ = some (.slice none 0 0) := (blk_cell BK374.out 10).trans rfl
       have hfs56 := blk_frozen BK374.out 10
       have hns56_1 := NB376_374.out
       have hms56_1 := NB374_376.out
       refine skip_ (w1 := ?_) (by rfl) rfl ?_ ?_
       rotate_left
       ·go_simp
        rfl
       refine hK.out _ _ ⟨((cell_far (p := ⟨gb374, _, none⟩) NB376_374.out _).trans (((cell_far (p := ⟨gb374, _, none⟩) NB376_374.out _).trans (((cell_far (p := ⟨gb374, _, none⟩) NB376_374.out _).trans (((cell_far (p := ⟨gb374, _, none⟩) NB376_374.out _).trans (((cell_far (p := ⟨gb374, _, none⟩) NB376_374.out _).trans (((cell_far (p := ⟨gb374, _, none⟩) NB376_374.out _).trans (((cell_far (p := ⟨gb374, _, none⟩) NB376_374.out _).trans (((cell_far (p := ⟨gb374, _, none⟩) NB376_374.out _).trans (((cell_far (p := ⟨gb374, _, none⟩) NB376_374.out _).trans (((cell_far (p := ⟨gb374, _, none⟩) NB376_374.out _).trans (((cell_far (p := ⟨gb374, _, none⟩) NB376_374.out _).trans (hHeld.1)))))))))))))))))))))), ((cell_far (p := ⟨gb374, _, none⟩) NB376_374.out _).trans (((cell_far (p := ⟨gb374, _, none⟩) NB376_374.out _).trans (((cell_far (p := ⟨gb374, _, none⟩) NB376_374.out _).trans (((cell_far (p := ⟨gb374, _, none⟩) NB376_374.out _).trans (((cell_far (p := ⟨gb374, _, none⟩) NB376_374.out _).trans (((cell_far (p := ⟨gb374, _, none⟩) NB376_374.out _).trans (((cell_far (p := ⟨gb374, _, none⟩) NB376_374.out _).trans (((cell_far (p := ⟨gb374, _, none⟩) NB376_374.out _).trans (((cell_far (p := ⟨gb374, _, none⟩) NB376_374.out _).trans (((cell_far (p := ⟨gb374, _, none⟩) NB376_374.out _).trans (((cell_far (p := ⟨gb374, _, none⟩) NB376_374.out _).trans (hHeld.2.1)))))))))))))))))))))), ((cell_far (p := ⟨gb374, _, none⟩) NB376_374.out _).trans (((cell_far (p := ⟨gb374, _, none⟩) NB376_374.out _).trans (((cell_far (p := ⟨gb374, _, none⟩) NB376_374.out _).trans (((cell_far (p := ⟨gb374, _, none⟩) NB376_374.out _).trans (((cell_far (p := ⟨gb374, _, none⟩) NB376_374.out _).trans (((cell_far (p := ⟨gb374, _, none⟩) NB376_374.out _).trans (((cell_far (p := ⟨gb374, _, none⟩) NB376_374.out _).trans (((cell_far (p := ⟨gb374, _, none⟩) NB376_374.out _).trans (((cell_far (p := ⟨gb374, _, none⟩) NB376_374.out _).trans (((cell_far (p := ⟨gb374, _, none⟩) NB376_374.out _).trans (((cell_far (p := ⟨gb374, _, none⟩) NB376_374.out _).trans (hHeld.2.2.1)))))))))))))))))))))), ((cell_far (p := ⟨gb374, _, none⟩) NB376_374.out _).trans (((cell_far (p := ⟨gb374, _, none⟩) NB376_374.out _).trans (((cell_far (p := ⟨gb374, _, none⟩) NB376_374.out _).trans (((cell_far (p := ⟨gb374, _, none⟩) NB376_374.out _).trans (((cell_far (p := ⟨gb374, _, none⟩) NB376_374.out _).trans (((cell_far (p := ⟨gb374, _, none⟩) NB376_374.out _).trans (((cell_far (p := ⟨gb374, _, none⟩) NB376_374.out _).trans (((cell_far (p := ⟨gb374, _, none⟩) NB376_374.out _).trans (((cell_far (p := ⟨gb374, _, none⟩) NB376_374.out _).trans (((cell_far (p := ⟨gb374, _, none⟩) NB376_374.out _).trans (((cell_far (p := ⟨gb374, _, none⟩) NB376_374.out _).trans (hHeld.2.2.2.1)))))))))))))))))))))), ((cell_far (p := ⟨gb374, _, none⟩) NB376_374.out _).trans (((cell_far (p := ⟨gb374, _, none⟩) NB376_374.out _).trans (((cell_far (p := ⟨gb374, _, none⟩) NB376_374.out _).trans (((cell_far (p := ⟨gb374, _, none⟩) NB376_374.out _).trans (((cell_far (p := ⟨gb374, _, none⟩) NB376_374.out _).trans (((cell_far (p := ⟨gb374, _, none⟩) NB376_374.out _).trans (((cell_far (p := ⟨gb374, _, none⟩) NB376_374.out _).trans (((cell_far (p := ⟨gb374, _, none⟩) NB376_374.out _).trans (((cell_far (p := ⟨gb374, _, none⟩) NB376_374.out _).trans (((cell_far (p := ⟨gb374, _, none⟩) NB376_374.out _).trans (((cell_far (p := ⟨gb374, _, none⟩) NB376_374.out _).trans (hHeld.2.2.2.2.1)))))))))))))))))))))), ((cell_far (p := ⟨gb374, _, none⟩) NB376_374.out _).trans (((cell_far (p := ⟨gb374, _, none⟩) NB376_374.out _).trans (((cell_far (p := ⟨gb374, _, none⟩) NB376_374.out _).trans (((cell_far (p := ⟨gb374, _, none⟩) NB376_374.out _).trans (((cell_far (p := ⟨gb374, _, none⟩) NB376_374.out _).trans (((cell_far (p := ⟨gb374, _, none⟩) NB376_374.out _).trans (((cell_far (p := ⟨gb374, _, none⟩) NB376_374.out _).trans (((cell_far (p := ⟨gb374, _, none⟩) NB376_374.out _).trans (((cell_far (p := ⟨gb374, _, none⟩) NB376_374.out _).trans (((cell_far (p := ⟨gb374, _, none⟩) NB376_374.out _).trans (((cell_far (p := ⟨gb374, _, none⟩) NB376_374.out _).trans (hHeld.2.2.2.2.2.1)))))))))))))))))))))), ((cell_far (p := ⟨gb374, _, none⟩) NB376_374.out _).trans (((cell_far (p := ⟨gb374, _, none⟩) NB376_374.out _).trans (((cell_far (p := ⟨gb374, _, none⟩) NB376_374.out _).trans (((cell_far (p := ⟨gb374, _, none⟩) NB376_374.out _).trans (((cell_far (p := ⟨gb374, _, none⟩) NB376_374.out _).trans (((cell_far (p := ⟨gb374, _, none⟩) NB376_374.out _).trans (((cell_far (p := ⟨gb374, _, none⟩) NB376_374.out _).trans (((cell_far (p := ⟨gb374, _, none⟩) NB376_374.out _).trans (((cell_far (p := ⟨gb374, _, none⟩) NB376_374.out _).trans (((cell_far (p := ⟨gb374, _, none⟩) NB376_374.out _).trans (((cell_far (p := ⟨gb374, _, none⟩) NB376_374.out _).trans (hHeld.2.2.2.2.2.2.1)))))))))))))))))))))), ((cell_far (p := ⟨gb374, _, none⟩) NB376_374.out _).trans (((cell_far (p := ⟨gb374, _, none⟩) NB376_374.out _).trans (((cell_far (p := ⟨gb374, _, none⟩) NB376_374.out _).trans (((cell_far (p := ⟨gb374, _, none⟩) NB376_374.out _).trans (((cell_far (p := ⟨gb374, _, none⟩) NB376_374.out _).trans (((cell_far (p := ⟨gb374, _, none⟩) NB376_374.out _).trans (((cell_far (p := ⟨gb374, _, none⟩) NB376_374.out _).trans (((cell_far (p := ⟨gb374, _, none⟩) NB376_374.out _).trans (((cell_far (p := ⟨gb374, _, none⟩) NB376_374.out _).trans (((cell_far (p := ⟨gb374, _, none⟩) NB376_374.out _).trans (((cell_far (p := ⟨gb374, _, none⟩) NB376_374.out _).trans (hHeld.2.2.2.2.2.2.2.1)))))))))))))))))))))), ((cell_far (p := ⟨gb374, _, none⟩) NB376_374.out _).trans (((cell_far (p := ⟨gb374, _, none⟩) NB376_374.out _).trans (((cell_far (p := ⟨gb374, _, none⟩) NB376_374.out _).trans (((cell_far (p := ⟨gb374, _, none⟩) NB376_374.out _).trans (((cell_far (p := ⟨gb374, _, none⟩) NB376_374.out _).trans (((cell_far (p := ⟨gb374, _, none⟩) NB376_374.out _).trans (((cell_far (p := ⟨gb374, _, none⟩) NB376_374.out _).trans (((cell_far (p := ⟨gb374, _, none⟩) NB376_374.out _).trans (((cell_far (p := ⟨gb374, _, none⟩) NB376_374.out _).trans (((cell_far (p := ⟨gb374, _, none⟩) NB376_374.out _).trans (((cell_far (p := ⟨gb374, _, none⟩) NB376_374.out _).trans (hHeld.2.2.2.2.2.2.2.2.1)))))))))))))))))))))), ((cell_far (p := ⟨gb374, _, none⟩) NB376_374.out _).trans (((cell_far (p := ⟨gb374, _, none⟩) NB376_374.out _).trans (((cell_far (p := ⟨gb374, _, none⟩) NB376_374.out _).trans (((cell_far (p := ⟨gb374, _, none⟩) NB376_374.out _).trans (((cell_far (p := ⟨gb374, _, none⟩) NB376_374.out _).trans (((cell_far (p := ⟨gb374, _, none⟩) NB376_374.out _).trans (((cell_far (p := ⟨gb374, _, none⟩) NB376_374.out _).trans (((cell_far (p := ⟨gb374, _, none⟩) NB376_374.out _).trans (((cell_far (p := ⟨gb374, _, none⟩) NB376_374.out _).trans (((cell_far (p := ⟨gb374, _, none⟩) NB376_374.out _).trans (((cell_far (p := ⟨gb374, _, none⟩) NB376_374.out _).trans (hHeld.2.2.2.2.2.2.2.2.2.1)))))))))))))))))))))), ((cell_far (p := ⟨gb374, _, none⟩) NB376_374.out _).trans (((cell_far (p := ⟨gb374, _, none⟩) NB376_374.out _).trans (((cell_far (p := ⟨gb374, _, none⟩) NB376_374.out _).trans (((cell_far (p := ⟨gb374, _, none⟩) NB376_374.out _).trans (((cell_far (p := ⟨gb374, _, none⟩) NB376_374.out _).trans (((cell_far (p := ⟨gb374, _, none⟩) NB376_374.out _).trans (((cell_far (p := ⟨gb374, _, none⟩) NB376_374.out _).trans (((cell_far (p := ⟨gb374, _, none⟩) NB376_374.out _).trans (((cell_far (p := ⟨gb374, _, none⟩) NB376_374.out _).trans (((cell_far (p := ⟨gb374, _, none⟩) NB376_374.out _).trans (((cell_far (p := ⟨gb374, _, none⟩) NB376_374.out _).trans (hHeld.2.2.2.2.2.2.2.2.2.2))))))))))))))))))))))⟩ (fun hHeld => ?_)
       clear hK K
       refine pure_ (i := 10) (N := some 3) (v := ?_) (a' := ?_) #[true, true, true, true, true, true, true, true, true, true, true] rfl rfl (any_of HT_.out (by kernel_rfl)) (fun _ _ _ h => h) (Or.inl ⟨by rfl, ?_⟩) ?_ ?_
       rotate_left
       ·intro w'
        go_simp
        with_reducible rfl
       rotate_left
       ·exact mP
       refine done_ (done_of HT_.out (by kernel_rfl)) ?_
       try go_wp2
       refine bodyPost_ret (results_ct rfl _ _ gb374 50 #[.int .i64 t375, .slice Ao42 x377001_2.length co42, .int .i64 x377002_2, .int .i64 x377003_2, .int .i64 x377004_2, .int .i64 x377005_2, .int .i64 x377006_2, .slice Ao43 x377007_18.length co43, .int .i64 t388, .int .i64 t389, .slice Ao38 t390.length co38] (0, 0) _ rfl (by (with_reducible repeat (first | refine blk_drewN ?_ _ | refine blk_drew ?_ | refine blk_alloc ?_ _)); have h_ := BK374.out; exact pK 10 (pK 9 (pK 8 (pK 7 (pK 6 (pK 5 (pK 4 (pK 3 (pK 2 (pK 1 (pK 0 (h_)))))))))))) Try.underlying50 rfl (by kernel_rfl)) rfl ?_
       exact ⟨_, _, _, by first | rfl | (simp [errW_none, errW_some] <;> rfl) | (simp [*, errW_none, errW_some] <;> rfl), by (with_reducible repeat (first | apply Kd.R_alloc | apply Kd.R_drewN | apply Kd.R_drew)); exact Kd.R_mono (rF 10 (rF 9 (rF 8 (rF 7 (rF 6 (rF 5 (rF 4 (rF 3 (rF 2 (rF 1 (rF 0 (Kd.R_types HO_377001.out BK374.out (by decide))))))))))))) (fun _ hk => hk.1), by (with_reducible repeat (first | apply Kd.R_alloc | apply Kd.R_drewN | apply Kd.R_drew)); exact Kd.R_mono (rF 10 (rF 9 (rF 8 (rF 7 (rF 6 (rF 5 (rF 4 (rF 3 (rF 2 (rF 1 (rF 0 (Kd.R_types HO_377007.out BK374.out (by decide))))))))))))) (fun _ hk => hk.1), by (with_reducible repeat (first | apply Kd.R_alloc | apply Kd.R_drewN | apply Kd.R_drew)); exact Kd.R_mono (rF 10 (rF 9 (rF 8 (rF 7 (rF 6 (rF 5 (rF 4 (rF 3 (rF 2 (rF 1 (rF 0 (Kd.R_types HO392.out BK374.out (by decide))))))))))))) (fun _ hk => trivial), by repeat (first | (with_reducible first | exact HB.out | apply below_alloc | apply pw_below_drewN | apply below_drew1 | refine below_set ?_ GE374.out | refine below_set ?_ GE376.out) | exact HB.out)⟩
      ·replace c33 := Bool.eq_false_iff.mpr c33
       subst c33
       have H1 : (some (t375, x377001_2, x377002_2, x377003_2, x377004_2, x377005_2, x377006_2, x377007_18, t388, t389, t390, false)) = some (r1, r2, r3, r4, r5, r6, r7, r8, r9, r10, r11, r12) := by rw [if_neg (show ¬ (false = true) by decide)] at H; exact H
       clear H
       have H := H1
       clear H1
       simp only [Option.some.injEq, Prod.mk.injEq] at H
       obtain ⟨rfl, rfl, rfl, rfl, rfl, rfl, rfl, rfl, rfl, rfl, rfl, rfl⟩ := H
       have hnb57 := NB376_374.out
       have hnc57 := NB374_376.out
       obtain ⟨hcz58_0, hcz58_1, hcz58_2, hcz58_3, hcz58_4, hcz58_5, hcz58_6, hcz58_7, hcz58_8, hcz58_9, hcz58_10⟩ := bC11 BK376.out
       obtain ⟨hfz58_0, hfz58_1, hfz58_2, hfz58_3, hfz58_4, hfz58_5, hfz58_6, hfz58_7, hfz58_8, hfz58_9, hfz58_10⟩ := bF11 BK376.out
       try go_wp2_with (first | ((with_reducible refine gate_callee (f := 66) rfl ?_); refine goesL_ (some 35) rfl rfl Try.func66 (by kernel_rfl) rfl #[.string a0, .int .i64 1] rfl mS ?_; (with_reducible refine (foghornref17_time.calls kj18 a0 1 t388 _ A29.out).mono ?_); rintro e w' ⟨rfl, ⟨nd, rfl⟩⟩; refine ⟨_, rfl, ?_⟩; (try (rw [drewN_self wc]; generalize hq_ : World.drewN wc _ = wc; have n0_ : Aside0 (Kd.R k41 41 wc w.heap.size (fun k_ => some k_ ≠ (u377007 : Value).ownBlock) u377001 x377001_2) := ⟨by rw [← hq_]; exact (mR HO_377001.out)⟩; have n1_ : Aside0 (Kd.R k41 41 wc w.heap.size (fun k_ => some k_ ≠ (u377001 : Value).ownBlock) u377007 x377007_18) := ⟨by rw [← hq_]; exact (mR HO_377007.out)⟩; have n2_ : Aside0 (wc.heap[gb374]? = some (.cells #[.int .i64 0, .slice none 0 0, .int .i64 0, .int .i64 0, .int .i64 0, .int .i64 0, .int .i64 0, .slice none 0 0, .int .i64 0, .int .i64 0, .slice none 0 0] 50 (0, 0))) := ⟨by rw [← hq_]; exact (mK BK374.out)⟩; have n3_ : Aside0 (wc.heap[gb376]? = some (.cells #[.int .i64 t375, u377001, .int .i64 x377002_2, .int .i64 x377003_2, .int .i64 x377004_2, .int .i64 x377005_2, .int .i64 x377006_2, u377007, .int .i64 0, .int .i64 0, .slice none 0 0] 50 (0, 0))) := ⟨by rw [← hq_]; exact (mK BK376.out)⟩; have n4_ : Aside0 (Below w.heap.size w wc) := ⟨by rw [← hq_]; exact (mD2 GE374.out GE376.out)⟩; clear HO_377001 HO_377007 BK374 BK376 HB hq_; have HO_377001 := n0_; have HO_377007 := n1_; have BK374 := n2_; have BK376 := n3_; have HB := n4_; clear n0_ n1_ n2_ n3_ n4_))) | ((with_reducible refine gate_callee (f := 66) rfl ?_); refine goesL_ (some 37) rfl rfl Try.func66 (by kernel_rfl) rfl #[.string a0, .int .i64 7] rfl mS ?_; (with_reducible refine (foghornref17_time.calls kj18 a0 7 t389 _ A30.out).mono ?_); rintro e w' ⟨rfl, ⟨nd, rfl⟩⟩; refine ⟨_, rfl, ?_⟩; (try (rw [drewN_self wc]; generalize hq_ : World.drewN wc _ = wc; have n0_ : Aside0 (Kd.R k41 41 wc w.heap.size (fun k_ => some k_ ≠ (u377007 : Value).ownBlock) u377001 x377001_2) := ⟨by rw [← hq_]; exact (mR HO_377001.out)⟩; have n1_ : Aside0 (Kd.R k41 41 wc w.heap.size (fun k_ => some k_ ≠ (u377001 : Value).ownBlock) u377007 x377007_18) := ⟨by rw [← hq_]; exact (mR HO_377007.out)⟩; have n2_ : Aside0 (wc.heap[gb374]? = some (.cells #[.int .i64 0, .slice none 0 0, .int .i64 0, .int .i64 0, .int .i64 0, .int .i64 0, .int .i64 0, .slice none 0 0, .int .i64 0, .int .i64 0, .slice none 0 0] 50 (0, 0))) := ⟨by rw [← hq_]; exact (mK BK374.out)⟩; have n3_ : Aside0 (wc.heap[gb376]? = some (.cells #[.int .i64 t375, u377001, .int .i64 x377002_2, .int .i64 x377003_2, .int .i64 x377004_2, .int .i64 x377005_2, .int .i64 x377006_2, u377007, .int .i64 0, .int .i64 0, .slice none 0 0] 50 (0, 0))) := ⟨by rw [← hq_]; exact (mK BK376.out)⟩; have n4_ : Aside0 (Below w.heap.size w wc) := ⟨by rw [← hq_]; exact (mD2 GE374.out GE376.out)⟩; clear HO_377001 HO_377007 BK374 BK376 HB hq_; have HO_377001 := n0_; have HO_377007 := n1_; have BK374 := n2_; have BK376 := n3_; have HB := n4_; clear n0_ n1_ n2_ n3_ n4_))) | ((with_reducible refine gate_callee (f := 68) rfl ?_); refine goesL_ (some 39) rfl rfl Try.func68 (by kernel_rfl) rfl #[.string a0, .int .i64 13] rfl mS ?_; (with_reducible refine (foghornref17_asked.calls kj18 a0 13 t390 _ A31.out).mono ?_); rintro e w59 ⟨v391, rfl, ho0, hb⟩; refine ⟨_, rfl, ?_⟩; have n0_ := aA (Kd.R_below (mR HO_377001.out) hb); have n1_ := aA (Kd.R_below (mR HO_377007.out) hb); have n2_ := aA (Kd.R_lower ho0 (below_size (mD2 GE374.out GE376.out))); have n3_ := aA (bB BK374.out hb); have n4_ := aA (bB BK376.out hb); have n5_ := aA (below_step (mD2 GE374.out GE376.out) hb); clear HO_377001 HO_377007 BK374 BK376 HB; have HO_377001 := n0_; have HO_377007 := n1_; have HO392 := n2_; have BK374 := n3_; have BK376 := n4_; have HB := n5_; clear n0_ n1_ n2_ n3_ n4_ n5_; (try clear hb); (try clear hb2); (try clear hk); (try clear hi); (try clear ho0); obtain ⟨Ao60, co60, eo60⟩ := Kd.R_slice HO392.out; subst eo60; obtain ⟨hcz61_0, hcz61_1, hcz61_2, hcz61_3, hcz61_4, hcz61_5, hcz61_6, hcz61_7, hcz61_8, hcz61_9, hcz61_10⟩ := bC11 BK376.out; obtain ⟨hfz61_0, hfz61_1, hfz61_2, hfz61_3, hfz61_4, hfz61_5, hfz61_6, hfz61_7, hfz61_8, hfz61_9, hfz61_10⟩ := bF11 BK376.out))
       have n0_ : Aside0 (Kd.R k41 41 (((w59.setCell ⟨gb376, 8, none⟩ (.int .i64 t388)).setCell ⟨gb376, 9, none⟩ (.int .i64 t389)).setCell ⟨gb376, 10, none⟩ (.slice Ao60 t390.length co60)) w.heap.size (fun k_ => some k_ ≠ (u377007 : Value).ownBlock) u377001 x377001_2) := ⟨by (with_reducible repeat (first | apply Kd.R_alloc | apply Kd.R_drewN | apply Kd.R_drew)); exact Kd.R_mono (rF 10 (rF 9 (rF 8 (Kd.R_types HO_377001.out BK376.out (by decide))))) (fun _ hk => hk.1)⟩
       have n1_ : Aside0 (Kd.R k41 41 (((w59.setCell ⟨gb376, 8, none⟩ (.int .i64 t388)).setCell ⟨gb376, 9, none⟩ (.int .i64 t389)).setCell ⟨gb376, 10, none⟩ (.slice Ao60 t390.length co60)) w.heap.size (fun k_ => some k_ ≠ (u377001 : Value).ownBlock) u377007 x377007_18) := ⟨by (with_reducible repeat (first | apply Kd.R_alloc | apply Kd.R_drewN | apply Kd.R_drew)); exact Kd.R_mono (rF 10 (rF 9 (rF 8 (Kd.R_types HO_377007.out BK376.out (by decide))))) (fun _ hk => hk.1)⟩
       have n2_ : Aside0 (Kd.R k35 35 (((w59.setCell ⟨gb376, 8, none⟩ (.int .i64 t388)).setCell ⟨gb376, 9, none⟩ (.int .i64 t389)).setCell ⟨gb376, 10, none⟩ (.slice Ao60 t390.length co60)) w.heap.size (fun _ => True) (.slice Ao60 t390.length co60) t390) := ⟨by (with_reducible repeat (first | apply Kd.R_alloc | apply Kd.R_drewN | apply Kd.R_drew)); exact Kd.R_mono (rF 10 (rF 9 (rF 8 (Kd.R_types HO392.out BK376.out (by decide))))) (fun _ hk => trivial)⟩
       have n3_ : Aside0 ((((w59.setCell ⟨gb376, 8, none⟩ (.int .i64 t388)).setCell ⟨gb376, 9, none⟩ (.int .i64 t389)).setCell ⟨gb376, 10, none⟩ (.slice Ao60 t390.length co60)).heap[gb374]? = some (.cells #[.int .i64 0, .slice none 0 0, .int .i64 0, .int .i64 0, .int .i64 0, .int .i64 0, .int .i64 0, .slice none 0 0, .int .i64 0, .int .i64 0, .slice none 0 0] 50 (0, 0))) := ⟨by (with_reducible repeat (first | refine blk_drewN ?_ _ | refine blk_drew ?_ | refine blk_alloc ?_ _)); refine blk_far ?_ NB374_376.out _; (with_reducible repeat (first | refine blk_drewN ?_ _ | refine blk_drew ?_ | refine blk_alloc ?_ _)); refine blk_far ?_ NB374_376.out _; (with_reducible repeat (first | refine blk_drewN ?_ _ | refine blk_drew ?_ | refine blk_alloc ?_ _)); refine blk_far ?_ NB374_376.out _; (with_reducible repeat (first | refine blk_drewN ?_ _ | refine blk_drew ?_ | refine blk_alloc ?_ _)); exact BK374.out⟩
       have n4_ : Aside0 ((((w59.setCell ⟨gb376, 8, none⟩ (.int .i64 t388)).setCell ⟨gb376, 9, none⟩ (.int .i64 t389)).setCell ⟨gb376, 10, none⟩ (.slice Ao60 t390.length co60)).heap[gb376]? = some (.cells #[.int .i64 t375, u377001, .int .i64 x377002_2, .int .i64 x377003_2, .int .i64 x377004_2, .int .i64 x377005_2, .int .i64 x377006_2, u377007, .int .i64 t388, .int .i64 t389, .slice Ao60 t390.length co60] 50 (0, 0))) := ⟨by (with_reducible repeat (first | refine blk_drewN ?_ _ | refine blk_drew ?_ | refine blk_alloc ?_ _)); refine blk_put (cs := #[.int .i64 t375, u377001, .int .i64 x377002_2, .int .i64 x377003_2, .int .i64 x377004_2, .int .i64 x377005_2, .int .i64 x377006_2, u377007, .int .i64 t388, .int .i64 t389, .slice none 0 0]) ?_ 10 _ rfl; (with_reducible repeat (first | refine blk_drewN ?_ _ | refine blk_drew ?_ | refine blk_alloc ?_ _)); refine blk_put (cs := #[.int .i64 t375, u377001, .int .i64 x377002_2, .int .i64 x377003_2, .int .i64 x377004_2, .int .i64 x377005_2, .int .i64 x377006_2, u377007, .int .i64 t388, .int .i64 0, .slice none 0 0]) ?_ 9 _ rfl; (with_reducible repeat (first | refine blk_drewN ?_ _ | refine blk_drew ?_ | refine blk_alloc ?_ _)); refine blk_put (cs := #[.int .i64 t375, u377001, .int .i64 x377002_2, .int .i64 x377003_2, .int .i64 x377004_2, .int .i64 x377005_2, .int .i64 x377006_2, u377007, .int .i64 0, .int .i64 0, .slice none 0 0]) ?_ 8 _ rfl; (with_reducible repeat (first | refine blk_drewN ?_ _ | refine blk_drew ?_ | refine blk_alloc ?_ _)); exact BK376.out⟩
       have n5_ : Aside0 (Below w.heap.size w (((w59.setCell ⟨gb376, 8, none⟩ (.int .i64 t388)).setCell ⟨gb376, 9, none⟩ (.int .i64 t389)).setCell ⟨gb376, 10, none⟩ (.slice Ao60 t390.length co60))) := ⟨by repeat (first | (with_reducible first | exact HB.out | apply below_alloc | apply pw_below_drewN | apply below_drew1 | refine below_set ?_ GE374.out | refine below_set ?_ GE376.out) | exact HB.out)⟩
       (try clear HO_377001)
       (try clear HO_377007)
       (try clear HO392)
       (try clear BK374)
       (try clear BK376)
       (try clear HB)
       generalize (((w59.setCell ⟨gb376, 8, none⟩ (.int .i64 t388)).setCell ⟨gb376, 9, none⟩ (.int .i64 t389)).setCell ⟨gb376, 10, none⟩ (.slice Ao60 t390.length co60)) = w62 at n0_ n1_ n2_ n3_ n4_ n5_ ⊢
       have HO_377001 := n0_
       have HO_377007 := n1_
       have HO392 := n2_
       have BK374 := n3_
       have BK376 := n4_
       have HB := n5_
       clear n0_ n1_ n2_ n3_ n4_ n5_
       have n0_ := aA (Kd.R_drew HO_377001.out)
       have n1_ := aA (Kd.R_drew HO_377007.out)
       have n2_ := aA (Kd.R_drew HO392.out)
       have n3_ := aA (blk_drew BK374.out)
       have n4_ := aA (blk_drew BK376.out)
       have n5_ := aA (below_drew1 HB.out)
       clear HO_377001
       clear HO_377007
       clear HO392
       clear BK374
       clear BK376
       clear HB
       have HO_377001 := n0_
       have HO_377007 := n1_
       have HO392 := n2_
       have BK374 := n3_
       have BK376 := n4_
       have HB := n5_
       clear n0_ n1_ n2_ n3_ n4_ n5_
       obtain ⟨Ao64, co64, eo64⟩ := Kd.R_slice HO_377001.out
       (first | subst eo64 | (injection eo64 with f1_ f2_ f3_; have f4_ := f1_.symm; have f5_ := f3_.symm; clear f1_ f2_ f3_; subst f4_; subst f5_))
       obtain ⟨Ao65, co65, eo65⟩ := Kd.R_slice HO_377007.out
       (first | subst eo65 | (injection eo65 with f1_ f2_ f3_; have f4_ := f1_.symm; have f5_ := f3_.symm; clear f1_ f2_ f3_; subst f4_; subst f5_))
       refine start_ (n := 11) (S := fun w' => w'.cell? ⟨gb376, 0, none⟩ = some (.int .i64 t375) ∧ w'.cell? ⟨gb376, 1, none⟩ = some (.slice Ao64 x377001_2.length co64) ∧ w'.cell? ⟨gb376, 2, none⟩ = some (.int .i64 x377002_2) ∧ w'.cell? ⟨gb376, 3, none⟩ = some (.int .i64 x377003_2) ∧ w'.cell? ⟨gb376, 4, none⟩ = some (.int .i64 x377004_2) ∧ w'.cell? ⟨gb376, 5, none⟩ = some (.int .i64 x377005_2) ∧ w'.cell? ⟨gb376, 6, none⟩ = some (.int .i64 x377006_2) ∧ w'.cell? ⟨gb376, 7, none⟩ = some (.slice Ao65 x377007_18.length co65) ∧ w'.cell? ⟨gb376, 8, none⟩ = some (.int .i64 t388) ∧ w'.cell? ⟨gb376, 9, none⟩ = some (.int .i64 t389) ∧ w'.cell? ⟨gb376, 10, none⟩ = some (.slice Ao60 t390.length co60)) (ds := []) #[false, false, false, false, false, false, false, false, false, false, false] (by kernel_rfl) rfl rfl (bC11 BK376.out) (fun hHeld => ?_); refine with_tabW foghornref17_Get.tab8 foghornref17_Get.bits8 (fun HT_ HW_ => ?_)
       generalize w62.drew = w63 at HO_377001 HO_377007 HO392 BK374 BK376 HB hHeld ⊢
       refine take_ (i := 0) (N := some 42) (v := ?_) (a' := ?_) #[true, false, false, false, false, false, false, false, false, false, false] rfl rfl (take_ofW HT_.out HW_.out (by kernel_rfl)) (fun _ _ _ h => h) (Or.inl ⟨by rfl, ?_⟩) hHeld ?_ ?_
       rotate_left
       ·rintro w' ⟨s0, s1, s2, s3, s4, s5, s6, s7, s8, s9, s10⟩
        go_simp
        with_reducible rfl
       rotate_left
       ·exact mP
       refine take_ (i := 1) (N := some 43) (v := ?_) (a' := ?_) #[true, true, false, false, false, false, false, false, false, false, false] rfl rfl (take_ofW HT_.out HW_.out (by kernel_rfl)) (fun _ _ _ h => h) (Or.inl ⟨by rfl, ?_⟩) hHeld ?_ ?_
       rotate_left
       ·rintro w' ⟨s0, s1, s2, s3, s4, s5, s6, s7, s8, s9, s10⟩
        go_simp
        with_reducible rfl
       rotate_left
       ·exact mP
       refine one_ (i := 2) (N := some 44) #[true, true, true, false, false, false, false, false, false, false, false] rfl rfl (one_of HT_.out (by kernel_rfl)) (by decide) (fun K hK => ?_)
       refine goes_ Try.func27 (by kernel_rfl) rfl #[.agg #[.int .i64 t375, .slice Ao64 x377001_2.length co64, .int .i64 x377002_2, .int .i64 x377003_2, .int .i64 x377004_2, .int .i64 x377005_2, .int .i64 x377006_2, .slice Ao65 x377007_18.length co65, .int .i64 t388, .int .i64 t389, .slice Ao60 t390.length co60]] (by rfl) rfl rfl mS ?_
       with_reducible refine (foghornref17_Right.calls kj18 t375 _ _ x377001_2 x377002_2 x377003_2 x377004_2 x377005_2 x377006_2 _ _ x377007_18 t388 t389 _ _ t390 false _ ?side1 ?side2 ?side3 ?side4 ?side5 ?side6 A32.out).mono ?_
       (case side1 => exact mC ((Kd.R_reads' HO_377001.out).2.2))
       (case side2 => exact (Kd.R_reads' HO_377001.out).2.1)
       (case side3 => exact mC ((Kd.R_reads' HO_377007.out).2.2))
       (case side4 => exact (Kd.R_reads' HO_377007.out).2.1)
       (case side5 => exact mC ((Kd.R_reads' HO392.out).2.2))
       (case side6 => exact (Kd.R_reads' HO392.out).2.1)
       rintro e w66 ⟨rfl, hb⟩
       refine ⟨_, rfl, ?_⟩
       have n0_ := aA (Kd.R_below (mR HO_377001.out) hb)
       have n1_ := aA (Kd.R_below (mR HO_377007.out) hb)
       have n2_ := aA (Kd.R_below (mR HO392.out) hb)
       have n3_ := aA (bB BK374.out hb)
       have n4_ := aA (bB BK376.out hb)
       have n5_ := aA (below_step (mD2 GE374.out GE376.out) hb)
       clear HO_377001
       clear HO_377007
       clear HO392
       clear BK374
       clear BK376
       clear HB
       have HO_377001 := n0_
       have HO_377007 := n1_
       have HO392 := n2_
       have BK374 := n3_
       have BK376 := n4_
       have HB := n5_
       clear n0_ n1_ n2_ n3_ n4_ n5_
       (try clear hb)
       (try clear hb2)
       (try clear hk)
       (try clear hi)
       refine hK.out _ _ (bC11 BK376.out) (fun hHeld => ?_)
       clear hK K
       refine norm_ (a' := ?_) ?_ ?_
       rotate_left
       ·show Act.put _ (some 44) _ = _
        simp only [Act.put, List.setIfInBounds_toArray, List.set_cons_zero, List.set_cons_succ, i64_w, i32_w]
        rfl
       refine pure_ (i := 3) (N := some 45) (v := ?_) (a' := ?_) #[true, true, true, true, false, false, false, false, false, false, false] rfl rfl (any_of HT_.out (by kernel_rfl)) (fun _ _ _ h => h) (Or.inl ⟨by rfl, ?_⟩) ?_ ?_
       rotate_left
       ·intro w'
        go_simp
        with_reducible rfl
       rotate_left
       ·exact mP
       refine pure_ (i := 4) (N := some 46) (v := undef) (a' := ?_) #[true, true, true, true, true, false, false, false, false, false, false] rfl rfl (any_of HT_.out (by kernel_rfl)) (fun _ _ _ h => h) (Or.inr ⟨by rfl, rfl⟩) ?_ ?_
       rotate_left
       ·exact mP
       refine pure_ (i := 5) (N := some 47) (v := undef) (a' := ?_) #[true, true, true, true, true, true, false, false, false, false, false] rfl rfl (any_of HT_.out (by kernel_rfl)) (fun _ _ _ h => h) (Or.inr ⟨by rfl, rfl⟩) ?_ ?_
       rotate_left
       ·exact mP
       refine pure_ (i := 6) (N := some 48) (v := undef) (a' := ?_) #[true, true, true, true, true, true, true, false, false, false, false] rfl rfl (any_of HT_.out (by kernel_rfl)) (fun _ _ _ h => h) (Or.inr ⟨by rfl, rfl⟩) ?_ ?_
       rotate_left
       ·exact mP
       refine pure_ (i := 7) (N := some 49) (v := undef) (a' := ?_) #[true, true, true, true, true, true, true, true, false, false, false] rfl rfl (any_of HT_.out (by kernel_rfl)) (fun _ _ _ h => h) (Or.inr ⟨by rfl, rfl⟩) ?_ ?_
       rotate_left
       ·exact mP
       refine pure_ (i := 8) (N := some 50) (v := ?_) (a' := ?_) #[true, true, true, true, true, true, true, true, true, false, false] rfl rfl (any_of HT_.out (by kernel_rfl)) (fun _ _ _ h => h) (Or.inl ⟨by rfl, ?_⟩) ?_ ?_
       rotate_left
       ·intro w'
        go_simp
        with_reducible rfl
       rotate_left
       ·exact mP
       refine one_ (i := 9) (N := none) #[true, true, true, true, true, true, true, true, true, true, false] rfl rfl (one_of HT_.out (by kernel_rfl)) (by decide) (fun K hK => ?_)
       have hs67 : w66.cell? ⟨gb374, 0, none⟩ = some (.int .i64 0) := (blk_cell BK374.out 0).trans rfl
       have hfs67 := blk_frozen BK374.out 0
       have hns67_1 := NB376_374.out
       have hms67_1 := NB374_376.out
       have hs68 : w66.cell? ⟨gb374, 1, none⟩ = some (.slice none 0 0) := (blk_cell BK374.out 1).trans rfl
       have hfs68 := blk_frozen BK374.out 1
       have hns68_1 := NB376_374.out
       have hms68_1 := NB374_376.out
       have hs69 : w66.cell? ⟨gb374, 2, none⟩ = some (.int .i64 0) := (blk_cell BK374.out 2).trans rfl
       have hfs69 := blk_frozen BK374.out 2
       have hns69_1 := NB376_374.out
       have hms69_1 := NB374_376.out
       have hs70 : w66.cell? ⟨gb374, 3, none⟩ = some (.int .i64 0) := (blk_cell BK374.out 3).trans rfl
       have hfs70 := blk_frozen BK374.out 3
       have hns70_1 := NB376_374.out
       have hms70_1 := NB374_376.out
       have hs71 : w66.cell? ⟨gb374, 4, none⟩ = some (.int .i64 0) := (blk_cell BK374.out 4).trans rfl
       have hfs71 := blk_frozen BK374.out 4
       have hns71_1 := NB376_374.out
       have hms71_1 := NB374_376.out
       have hs72 : w66.cell? ⟨gb374, 5, none⟩ = some (.int .i64 0) := (blk_cell BK374.out 5).trans rfl
       have hfs72 := blk_frozen BK374.out 5
       have hns72_1 := NB376_374.out
       have hms72_1 := NB374_376.out
       have hs73 : w66.cell? ⟨gb374, 6, none⟩ = some (.int .i64 0) := (blk_cell BK374.out 6).trans rfl
       have hfs73 := blk_frozen BK374.out 6
       have hns73_1 := NB376_374.out
       have hms73_1 := NB374_376.out
       have hs74 : w66.cell? ⟨gb374, 7, none⟩ = some (.slice none 0 0) := (blk_cell BK374.out 7).trans rfl
       have hfs74 := blk_frozen BK374.out 7
       have hns74_1 := NB376_374.out
       have hms74_1 := NB374_376.out
       have hs75 : w66.cell? ⟨gb374, 8, none⟩ = some (.int .i64 0) := (blk_cell BK374.out 8).trans rfl
       have hfs75 := blk_frozen BK374.out 8
       have hns75_1 := NB376_374.out
       have hms75_1 := NB374_376.out
       have hs76 : w66.cell? ⟨gb374, 9, none⟩ = some (.int .i64 0) := (blk_cell BK374.out 9).trans rfl
       have hfs76 := blk_frozen BK374.out 9
       have hns76_1 := NB376_374.out
       have hms76_1 := NB374_376.out
       have hs77 : w66.cell? ⟨gb374, 10, none⟩ = some (.slice none 0 0) := (blk_cell BK374.out 10).trans rfl
       have hfs77 := blk_frozen BK374.out 10
       have hns77_1 := NB376_374.out
       have hms77_1 := NB374_376.out
       refine skip_ (w1 := ?_) (by rfl) rfl ?_ ?_
       rotate_left
       ·go_simp
        rfl
       refine hK.out _ _ ⟨((cell_far (p := ⟨gb374, _, none⟩) NB376_374.out _).trans (((cell_far (p := ⟨gb374, _, none⟩) NB376_374.out _).trans (((cell_far (p := ⟨gb374, _, none⟩) NB376_374.out _).trans (((cell_far (p := ⟨gb374, _, none⟩) NB376_374.out _).trans (((cell_far (p := ⟨gb374, _, none⟩) NB376_374.out _).trans (((cell_far (p := ⟨gb374, _, none⟩) NB376_374.out _).trans (((cell_far (p := ⟨gb374, _, none⟩) NB376_374.out _).trans (((cell_far (p := ⟨gb374, _, none⟩) NB376_374.out _).trans (((cell_far (p := ⟨gb374, _, none⟩) NB376_374.out _).trans (((cell_far (p := ⟨gb374, _, none⟩) NB376_374.out _).trans (((cell_far (p := ⟨gb374, _, none⟩) NB376_374.out _).trans (hHeld.1)))))))))))))))))))))), ((cell_far (p := ⟨gb374, _, none⟩) NB376_374.out _).trans (((cell_far (p := ⟨gb374, _, none⟩) NB376_374.out _).trans (((cell_far (p := ⟨gb374, _, none⟩) NB376_374.out _).trans (((cell_far (p := ⟨gb374, _, none⟩) NB376_374.out _).trans (((cell_far (p := ⟨gb374, _, none⟩) NB376_374.out _).trans (((cell_far (p := ⟨gb374, _, none⟩) NB376_374.out _).trans (((cell_far (p := ⟨gb374, _, none⟩) NB376_374.out _).trans (((cell_far (p := ⟨gb374, _, none⟩) NB376_374.out _).trans (((cell_far (p := ⟨gb374, _, none⟩) NB376_374.out _).trans (((cell_far (p := ⟨gb374, _, none⟩) NB376_374.out _).trans (((cell_far (p := ⟨gb374, _, none⟩) NB376_374.out _).trans (hHeld.2.1)))))))))))))))))))))), ((cell_far (p := ⟨gb374, _, none⟩) NB376_374.out _).trans (((cell_far (p := ⟨gb374, _, none⟩) NB376_374.out _).trans (((cell_far (p := ⟨gb374, _, none⟩) NB376_374.out _).trans (((cell_far (p := ⟨gb374, _, none⟩) NB376_374.out _).trans (((cell_far (p := ⟨gb374, _, none⟩) NB376_374.out _).trans (((cell_far (p := ⟨gb374, _, none⟩) NB376_374.out _).trans (((cell_far (p := ⟨gb374, _, none⟩) NB376_374.out _).trans (((cell_far (p := ⟨gb374, _, none⟩) NB376_374.out _).trans (((cell_far (p := ⟨gb374, _, none⟩) NB376_374.out _).trans (((cell_far (p := ⟨gb374, _, none⟩) NB376_374.out _).trans (((cell_far (p := ⟨gb374, _, none⟩) NB376_374.out _).trans (hHeld.2.2.1)))))))))))))))))))))), ((cell_far (p := ⟨gb374, _, none⟩) NB376_374.out _).trans (((cell_far (p := ⟨gb374, _, none⟩) NB376_374.out _).trans (((cell_far (p := ⟨gb374, _, none⟩) NB376_374.out _).trans (((cell_far (p := ⟨gb374, _, none⟩) NB376_374.out _).trans (((cell_far (p := ⟨gb374, _, none⟩) NB376_374.out _).trans (((cell_far (p := ⟨gb374, _, none⟩) NB376_374.out _).trans (((cell_far (p := ⟨gb374, _, none⟩) NB376_374.out _).trans (((cell_far (p := ⟨gb374, _, none⟩) NB376_374.out _).trans (((cell_far (p := ⟨gb374, _, none⟩) NB376_374.out _).trans (((cell_far (p := ⟨gb374, _, none⟩) NB376_374.out _).trans (((cell_far (p := ⟨gb374, _, none⟩) NB376_374.out _).trans (hHeld.2.2.2.1)))))))))))))))))))))), ((cell_far (p := ⟨gb374, _, none⟩) NB376_374.out _).trans (((cell_far (p := ⟨gb374, _, none⟩) NB376_374.out _).trans (((cell_far (p := ⟨gb374, _, none⟩) NB376_374.out _).trans (((cell_far (p := ⟨gb374, _, none⟩) NB376_374.out _).trans (((cell_far (p := ⟨gb374, _, none⟩) NB376_374.out _).trans (((cell_far (p := ⟨gb374, _, none⟩) NB376_374.out _).trans (((cell_far (p := ⟨gb374, _, none⟩) NB376_374.out _).trans (((cell_far (p := ⟨gb374, _, none⟩) NB376_374.out _).trans (((cell_far (p := ⟨gb374, _, none⟩) NB376_374.out _).trans (((cell_far (p := ⟨gb374, _, none⟩) NB376_374.out _).trans (((cell_far (p := ⟨gb374, _, none⟩) NB376_374.out _).trans (hHeld.2.2.2.2.1)))))))))))))))))))))), ((cell_far (p := ⟨gb374, _, none⟩) NB376_374.out _).trans (((cell_far (p := ⟨gb374, _, none⟩) NB376_374.out _).trans (((cell_far (p := ⟨gb374, _, none⟩) NB376_374.out _).trans (((cell_far (p := ⟨gb374, _, none⟩) NB376_374.out _).trans (((cell_far (p := ⟨gb374, _, none⟩) NB376_374.out _).trans (((cell_far (p := ⟨gb374, _, none⟩) NB376_374.out _).trans (((cell_far (p := ⟨gb374, _, none⟩) NB376_374.out _).trans (((cell_far (p := ⟨gb374, _, none⟩) NB376_374.out _).trans (((cell_far (p := ⟨gb374, _, none⟩) NB376_374.out _).trans (((cell_far (p := ⟨gb374, _, none⟩) NB376_374.out _).trans (((cell_far (p := ⟨gb374, _, none⟩) NB376_374.out _).trans (hHeld.2.2.2.2.2.1)))))))))))))))))))))), ((cell_far (p := ⟨gb374, _, none⟩) NB376_374.out _).trans (((cell_far (p := ⟨gb374, _, none⟩) NB376_374.out _).trans (((cell_far (p := ⟨gb374, _, none⟩) NB376_374.out _).trans (((cell_far (p := ⟨gb374, _, none⟩) NB376_374.out _).trans (((cell_far (p := ⟨gb374, _, none⟩) NB376_374.out _).trans (((cell_far (p := ⟨gb374, _, none⟩) NB376_374.out _).trans (((cell_far (p := ⟨gb374, _, none⟩) NB376_374.out _).trans (((cell_far (p := ⟨gb374, _, none⟩) NB376_374.out _).trans (((cell_far (p := ⟨gb374, _, none⟩) NB376_374.out _).trans (((cell_far (p := ⟨gb374, _, none⟩) NB376_374.out _).trans (((cell_far (p := ⟨gb374, _, none⟩) NB376_374.out _).trans (hHeld.2.2.2.2.2.2.1)))))))))))))))))))))), ((cell_far (p := ⟨gb374, _, none⟩) NB376_374.out _).trans (((cell_far (p := ⟨gb374, _, none⟩) NB376_374.out _).trans (((cell_far (p := ⟨gb374, _, none⟩) NB376_374.out _).trans (((cell_far (p := ⟨gb374, _, none⟩) NB376_374.out _).trans (((cell_far (p := ⟨gb374, _, none⟩) NB376_374.out _).trans (((cell_far (p := ⟨gb374, _, none⟩) NB376_374.out _).trans (((cell_far (p := ⟨gb374, _, none⟩) NB376_374.out _).trans (((cell_far (p := ⟨gb374, _, none⟩) NB376_374.out _).trans (((cell_far (p := ⟨gb374, _, none⟩) NB376_374.out _).trans (((cell_far (p := ⟨gb374, _, none⟩) NB376_374.out _).trans (((cell_far (p := ⟨gb374, _, none⟩) NB376_374.out _).trans (hHeld.2.2.2.2.2.2.2.1)))))))))))))))))))))), ((cell_far (p := ⟨gb374, _, none⟩) NB376_374.out _).trans (((cell_far (p := ⟨gb374, _, none⟩) NB376_374.out _).trans (((cell_far (p := ⟨gb374, _, none⟩) NB376_374.out _).trans (((cell_far (p := ⟨gb374, _, none⟩) NB376_374.out _).trans (((cell_far (p := ⟨gb374, _, none⟩) NB376_374.out _).trans (((cell_far (p := ⟨gb374, _, none⟩) NB376_374.out _).trans (((cell_far (p := ⟨gb374, _, none⟩) NB376_374.out _).trans (((cell_far (p := ⟨gb374, _, none⟩) NB376_374.out _).trans (((cell_far (p := ⟨gb374, _, none⟩) NB376_374.out _).trans (((cell_far (p := ⟨gb374, _, none⟩) NB376_374.out _).trans (((cell_far (p := ⟨gb374, _, none⟩) NB376_374.out _).trans (hHeld.2.2.2.2.2.2.2.2.1)))))))))))))))))))))), ((cell_far (p := ⟨gb374, _, none⟩) NB376_374.out _).trans (((cell_far (p := ⟨gb374, _, none⟩) NB376_374.out _).trans (((cell_far (p := ⟨gb374, _, none⟩) NB376_374.out _).trans (((cell_far (p := ⟨gb374, _, none⟩) NB376_374.out _).trans (((cell_far (p := ⟨gb374, _, none⟩) NB376_374.out _).trans (((cell_far (p := ⟨gb374, _, none⟩) NB376_374.out _).trans (((cell_far (p := ⟨gb374, _, none⟩) NB376_374.out _).trans (((cell_far (p := ⟨gb374, _, none⟩) NB376_374.out _).trans (((cell_far (p := ⟨gb374, _, none⟩) NB376_374.out _).trans (((cell_far (p := ⟨gb374, _, none⟩) NB376_374.out _).trans (((cell_far (p := ⟨gb374, _, none⟩) NB376_374.out _).trans (hHeld.2.2.2.2.2.2.2.2.2.1)))))))))))))))))))))), ((cell_far (p := ⟨gb374, _, none⟩) NB376_374.out _).trans (((cell_far (p := ⟨gb374, _, none⟩) NB376_374.out _).trans (((cell_far (p := ⟨gb374, _, none⟩) NB376_374.out _).trans (((cell_far (p := ⟨gb374, _, none⟩) NB376_374.out _).trans (((cell_far (p := ⟨gb374, _, none⟩) NB376_374.out _).trans (((cell_far (p := ⟨gb374, _, none⟩) NB376_374.out _).trans (((cell_far (p := ⟨gb374, _, none⟩) NB376_374.out _).trans (((cell_far (p := ⟨gb374, _, none⟩) NB376_374.out _).trans (((cell_far (p := ⟨gb374, _, none⟩) NB376_374.out _).trans (((cell_far (p := ⟨gb374, _, none⟩) NB376_374.out _).trans (((cell_far (p := ⟨gb374, _, none⟩) NB376_374.out _).trans (hHeld.2.2.2.2.2.2.2.2.2.2))))))))))))))))))))))⟩ (fun hHeld => ?_)
       clear hK K
       refine pure_ (i := 10) (N := some 3) (v := ?_) (a' := ?_) #[true, true, true, true, true, true, true, true, true, true, true] rfl rfl (any_of HT_.out (by kernel_rfl)) (fun _ _ _ h => h) (Or.inl ⟨by rfl, ?_⟩) ?_ ?_
       rotate_left
       ·intro w'
        go_simp
        with_reducible rfl
       rotate_left
       ·exact mP
       refine done_ (done_of HT_.out (by kernel_rfl)) ?_
       try go_wp2
       refine bodyPost_ret (results_ct rfl _ _ gb374 50 #[.int .i64 t375, .slice Ao64 x377001_2.length co64, .int .i64 x377002_2, .int .i64 x377003_2, .int .i64 x377004_2, .int .i64 x377005_2, .int .i64 x377006_2, .slice Ao65 x377007_18.length co65, .int .i64 t388, .int .i64 t389, .slice Ao60 t390.length co60] (0, 0) _ rfl (by (with_reducible repeat (first | refine blk_drewN ?_ _ | refine blk_drew ?_ | refine blk_alloc ?_ _)); have h_ := BK374.out; exact pK 10 (pK 9 (pK 8 (pK 7 (pK 6 (pK 5 (pK 4 (pK 3 (pK 2 (pK 1 (pK 0 (h_)))))))))))) Try.underlying50 rfl (by kernel_rfl)) rfl ?_
       exact ⟨_, _, _, by first | rfl | (simp [errW_none, errW_some] <;> rfl) | (simp [*, errW_none, errW_some] <;> rfl), by (with_reducible repeat (first | apply Kd.R_alloc | apply Kd.R_drewN | apply Kd.R_drew)); exact Kd.R_mono (rF 10 (rF 9 (rF 8 (rF 7 (rF 6 (rF 5 (rF 4 (rF 3 (rF 2 (rF 1 (rF 0 (Kd.R_types HO_377001.out BK374.out (by decide))))))))))))) (fun _ hk => hk.1), by (with_reducible repeat (first | apply Kd.R_alloc | apply Kd.R_drewN | apply Kd.R_drew)); exact Kd.R_mono (rF 10 (rF 9 (rF 8 (rF 7 (rF 6 (rF 5 (rF 4 (rF 3 (rF 2 (rF 1 (rF 0 (Kd.R_types HO_377007.out BK374.out (by decide))))))))))))) (fun _ hk => hk.1), by (with_reducible repeat (first | apply Kd.R_alloc | apply Kd.R_drewN | apply Kd.R_drew)); exact Kd.R_mono (rF 10 (rF 9 (rF 8 (rF 7 (rF 6 (rF 5 (rF 4 (rF 3 (rF 2 (rF 1 (rF 0 (Kd.R_types HO392.out BK374.out (by decide))))))))))))) (fun _ hk => trivial), by repeat (first | (with_reducible first | exact HB.out | apply below_alloc | apply pw_below_drewN | apply below_drew1 | refine below_set ?_ GE374.out | refine below_set ?_ GE376.out) | exact HB.out)⟩
     ·rw [if_neg c28] at H
      have c28b0 : (t375 == 3) = false := beq_eq_false_iff_ne.mpr c28
      have c28b1 : (t375 != 3) = true := bne_iff_ne.mpr c28
      replace H := Option.bind_eq_some_iff.mp H
      obtain ⟨t395, A780, H⟩ := H
      replace H : (if t395 = true then ((foghornref17_Put.f kj18 t375 x377001_2 x377002_2 x377003_2 x377004_2 x377005_2 x377006_2 x377007_18 0 0 ([] : List (S35))).bind fun t396 => (some (t375, x377001_2, x377002_2, x377003_2, x377004_2, x377005_2, x377006_2, x377007_18, 0, 0, ([] : List (S35)), (t396.toList == a0.toList)))) else (some (t375, x377001_2, x377002_2, x377003_2, x377004_2, x377005_2, x377006_2, x377007_18, 0, 0, ([] : List (S35)), false))) = some (r1, r2, r3, r4, r5, r6, r7, r8, r9, r10, r11, r12) := H
      have A78 := aA A780
      clear A780
      by_cases c79 : t395 = true
      ·subst c79
       have H1 : ((foghornref17_Put.f kj18 t375 x377001_2 x377002_2 x377003_2 x377004_2 x377005_2 x377006_2 x377007_18 0 0 ([] : List (S35))).bind fun t396 => (some (t375, x377001_2, x377002_2, x377003_2, x377004_2, x377005_2, x377006_2, x377007_18, 0, 0, ([] : List (S35)), (t396.toList == a0.toList)))) = some (r1, r2, r3, r4, r5, r6, r7, r8, r9, r10, r11, r12) := by rw [if_pos rfl] at H; exact H
       clear H
       have H := H1
       clear H1
       replace H := Option.bind_eq_some_iff.mp H
       obtain ⟨t396, A800, H⟩ := H
       replace H : (some (t375, x377001_2, x377002_2, x377003_2, x377004_2, x377005_2, x377006_2, x377007_18, 0, 0, ([] : List (S35)), (t396.toList == a0.toList))) = some (r1, r2, r3, r4, r5, r6, r7, r8, r9, r10, r11, r12) := H
       have A80 := aA A800
       clear A800
       simp only [Option.some.injEq, Prod.mk.injEq] at H
       obtain ⟨rfl, rfl, rfl, rfl, rfl, rfl, rfl, rfl, rfl, rfl, rfl, rfl⟩ := H
       have hnb81 := NB376_374.out
       have hnc81 := NB374_376.out
       obtain ⟨hcz82_0, hcz82_1, hcz82_2, hcz82_3, hcz82_4, hcz82_5, hcz82_6, hcz82_7, hcz82_8, hcz82_9, hcz82_10⟩ := bC11 BK376.out
       obtain ⟨hfz82_0, hfz82_1, hfz82_2, hfz82_3, hfz82_4, hfz82_5, hfz82_6, hfz82_7, hfz82_8, hfz82_9, hfz82_10⟩ := bF11 BK376.out
       try go_wp2
       have n0_ := aA (Kd.R_drew HO_377001.out)
       have n1_ := aA (Kd.R_drew HO_377007.out)
       have n2_ := aA (blk_drew BK374.out)
       have n3_ := aA (blk_drew BK376.out)
       have n4_ := aA (below_drew1 HB.out)
       clear HO_377001
       clear HO_377007
       clear BK374
       clear BK376
       clear HB
       have HO_377001 := n0_
       have HO_377007 := n1_
       have BK374 := n2_
       have BK376 := n3_
       have HB := n4_
       clear n0_ n1_ n2_ n3_ n4_
       obtain ⟨Ao84, co84, eo84⟩ := Kd.R_slice HO_377001.out
       (first | subst eo84 | (injection eo84 with f1_ f2_ f3_; have f4_ := f1_.symm; have f5_ := f3_.symm; clear f1_ f2_ f3_; subst f4_; subst f5_))
       obtain ⟨Ao85, co85, eo85⟩ := Kd.R_slice HO_377007.out
       (first | subst eo85 | (injection eo85 with f1_ f2_ f3_; have f4_ := f1_.symm; have f5_ := f3_.symm; clear f1_ f2_ f3_; subst f4_; subst f5_))
       refine start_ (n := 11) (S := fun w' => w'.cell? ⟨gb376, 0, none⟩ = some (.int .i64 t375) ∧ w'.cell? ⟨gb376, 1, none⟩ = some (.slice Ao84 x377001_2.length co84) ∧ w'.cell? ⟨gb376, 2, none⟩ = some (.int .i64 x377002_2) ∧ w'.cell? ⟨gb376, 3, none⟩ = some (.int .i64 x377003_2) ∧ w'.cell? ⟨gb376, 4, none⟩ = some (.int .i64 x377004_2) ∧ w'.cell? ⟨gb376, 5, none⟩ = some (.int .i64 x377005_2) ∧ w'.cell? ⟨gb376, 6, none⟩ = some (.int .i64 x377006_2) ∧ w'.cell? ⟨gb376, 7, none⟩ = some (.slice Ao85 x377007_18.length co85) ∧ w'.cell? ⟨gb376, 8, none⟩ = some (.int .i64 0) ∧ w'.cell? ⟨gb376, 9, none⟩ = some (.int .i64 0) ∧ w'.cell? ⟨gb376, 10, none⟩ = some (.slice none 0 0)) (ds := []) #[false, false, false, false, false, false, false, false, false, false, false] (by kernel_rfl) rfl rfl (bC11 BK376.out) (fun hHeld => ?_); refine with_tabW foghornref17_Get.tab8 foghornref17_Get.bits8 (fun HT_ HW_ => ?_)
       generalize wc.drew = w83 at HO_377001 HO_377007 BK374 BK376 HB hHeld ⊢
       refine take_ (i := 0) (N := some 42) (v := ?_) (a' := ?_) #[true, false, false, false, false, false, false, false, false, false, false] rfl rfl (take_ofW HT_.out HW_.out (by kernel_rfl)) (fun _ _ _ h => h) (Or.inl ⟨by rfl, ?_⟩) hHeld ?_ ?_
       rotate_left
       ·rintro w' ⟨s0, s1, s2, s3, s4, s5, s6, s7, s8, s9, s10⟩
        go_simp
        with_reducible rfl
       rotate_left
       ·exact mP
       refine take_ (i := 1) (N := some 43) (v := ?_) (a' := ?_) #[true, true, false, false, false, false, false, false, false, false, false] rfl rfl (take_ofW HT_.out HW_.out (by kernel_rfl)) (fun _ _ _ h => h) (Or.inl ⟨by rfl, ?_⟩) hHeld ?_ ?_
       rotate_left
       ·rintro w' ⟨s0, s1, s2, s3, s4, s5, s6, s7, s8, s9, s10⟩
        go_simp
        with_reducible rfl
       rotate_left
       ·exact mP
       refine one_ (i := 2) (N := some 44) #[true, true, true, false, false, false, false, false, false, false, false] rfl rfl (one_of HT_.out (by kernel_rfl)) (by decide) (fun K hK => ?_)
       refine goes_ Try.func27 (by kernel_rfl) rfl #[.agg #[.int .i64 t375, .slice Ao84 x377001_2.length co84, .int .i64 x377002_2, .int .i64 x377003_2, .int .i64 x377004_2, .int .i64 x377005_2, .int .i64 x377006_2, .slice Ao85 x377007_18.length co85, .int .i64 0, .int .i64 0, .slice none 0 0]] (by rfl) rfl rfl mS ?_
       refine (foghornref17_Right.calls kj18 t375 _ _ x377001_2 x377002_2 x377003_2 x377004_2 x377005_2 x377006_2 _ _ x377007_18 0 0 _ _ ([] : List (S35)) true _ ?side1 ?side2 ?side3 ?side4 ?side5 ?side6 A78.out).mono ?_
       (case side1 => exact mC ((Kd.R_reads' HO_377001.out).2.2))
       (case side2 => exact (Kd.R_reads' HO_377001.out).2.1)
       (case side3 => exact mC ((Kd.R_reads' HO_377007.out).2.2))
       (case side4 => exact (Kd.R_reads' HO_377007.out).2.1)
       (case side5 => exact Kd.C_nil _ _)
       (case side6 => exact Nat.le_refl _)
       rintro e w86 ⟨rfl, hb⟩
       refine ⟨_, rfl, ?_⟩
       have n0_ := aA (Kd.R_below (mR HO_377001.out) hb)
       have n1_ := aA (Kd.R_below (mR HO_377007.out) hb)
       have n2_ := aA (bB BK374.out hb)
       have n3_ := aA (bB BK376.out hb)
       have n4_ := aA (below_step (mD2 GE374.out GE376.out) hb)
       clear HO_377001
       clear HO_377007
       clear BK374
       clear BK376
       clear HB
       have HO_377001 := n0_
       have HO_377007 := n1_
       have BK374 := n2_
       have BK376 := n3_
       have HB := n4_
       clear n0_ n1_ n2_ n3_ n4_
       (try clear hb)
       (try clear hb2)
       (try clear hk)
       (try clear hi)
       refine hK.out _ _ (bC11 BK376.out) (fun hHeld => ?_)
       clear hK K
       refine norm_ (a' := ?_) ?_ ?_
       rotate_left
       ·show Act.put _ (some 44) _ = _
        simp only [Act.put, List.setIfInBounds_toArray, List.set_cons_zero, List.set_cons_succ, i64_w, i32_w]
        rfl
       refine pure_ (i := 3) (N := some 45) (v := ?_) (a' := ?_) #[true, true, true, true, false, false, false, false, false, false, false] rfl rfl (any_of HT_.out (by kernel_rfl)) (fun _ _ _ h => h) (Or.inl ⟨by rfl, ?_⟩) ?_ ?_
       rotate_left
       ·intro w'
        go_simp
        with_reducible rfl
       rotate_left
       ·exact mP
       refine pure_ (i := 6) (N := some 48) (v := ?_) (a' := ?_) #[true, true, true, true, false, false, true, false, false, false, false] rfl rfl (any_of HT_.out (by kernel_rfl)) (fun _ _ _ h => h) (Or.inl ⟨by rfl, ?_⟩) ?_ ?_
       rotate_left
       ·intro w'
        go_simp
        with_reducible rfl
       rotate_left
       ·exact mP
       refine take_ (i := 4) (N := some 46) (v := ?_) (a' := ?_) #[true, true, true, true, true, false, true, false, false, false, false] rfl rfl (take_ofW HT_.out HW_.out (by kernel_rfl)) (fun _ _ _ h => h) (Or.inl ⟨by rfl, ?_⟩) hHeld ?_ ?_
       rotate_left
       ·rintro w' ⟨s0, s1, s2, s3, s4, s5, s6, s7, s8, s9, s10⟩
        go_simp
        with_reducible rfl
       rotate_left
       ·exact mP
       refine one_ (i := 5) (N := some 47) #[true, true, true, true, true, true, true, false, false, false, false] rfl rfl (one_of HT_.out (by kernel_rfl)) (by decide) (fun K hK => ?_)
       refine goes_ Try.func29 (by kernel_rfl) rfl #[.agg #[.int .i64 t375, .slice Ao84 x377001_2.length co84, .int .i64 x377002_2, .int .i64 x377003_2, .int .i64 x377004_2, .int .i64 x377005_2, .int .i64 x377006_2, .slice Ao85 x377007_18.length co85, .int .i64 0, .int .i64 0, .slice none 0 0]] (by rfl) rfl rfl mS ?_
       refine (foghornref17_Put.calls kj18 t375 _ _ x377001_2 x377002_2 x377003_2 x377004_2 x377005_2 x377006_2 _ _ x377007_18 0 0 _ _ ([] : List (S35)) t396 _ ?side1 ?side2 ?side3 ?side4 ?side5 ?side6 A80.out).mono ?_
       (case side1 => exact mC ((Kd.R_reads' HO_377001.out).2.2))
       (case side2 => exact (Kd.R_reads' HO_377001.out).2.1)
       (case side3 => exact mC ((Kd.R_reads' HO_377007.out).2.2))
       (case side4 => exact (Kd.R_reads' HO_377007.out).2.1)
       (case side5 => exact Kd.C_nil _ _)
       (case side6 => exact Nat.le_refl _)
       rintro e w87 ⟨rfl, hb⟩
       refine ⟨_, rfl, ?_⟩
       have n0_ := aA (Kd.R_below (mR HO_377001.out) hb)
       have n1_ := aA (Kd.R_below (mR HO_377007.out) hb)
       have n2_ := aA (bB BK374.out hb)
       have n3_ := aA (bB BK376.out hb)
       have n4_ := aA (below_step (mD2 GE374.out GE376.out) hb)
       clear HO_377001
       clear HO_377007
       clear BK374
       clear BK376
       clear HB
       have HO_377001 := n0_
       have HO_377007 := n1_
       have BK374 := n2_
       have BK376 := n3_
       have HB := n4_
       clear n0_ n1_ n2_ n3_ n4_
       (try clear hb)
       (try clear hb2)
       (try clear hk)
       (try clear hi)
       refine hK.out _ _ (bC11 BK376.out) (fun hHeld => ?_)
       clear hK K
       refine norm_ (a' := ?_) ?_ ?_
       rotate_left
       ·show Act.put _ (some 47) _ = _
        simp only [Act.put, List.setIfInBounds_toArray, List.set_cons_zero, List.set_cons_succ, i64_w, i32_w]
        rfl
       refine pure_ (i := 7) (N := some 49) (v := ?_) (a' := ?_) #[true, true, true, true, true, true, true, true, false, false, false] rfl rfl (any_of HT_.out (by kernel_rfl)) (fun _ _ _ h => h) (Or.inl ⟨by rfl, ?_⟩) ?_ ?_
       rotate_left
       ·intro w'
        go_simp
        with_reducible rfl
       rotate_left
       ·exact mP
       refine pure_ (i := 8) (N := some 50) (v := ?_) (a' := ?_) #[true, true, true, true, true, true, true, true, true, false, false] rfl rfl (any_of HT_.out (by kernel_rfl)) (fun _ _ _ h => h) (Or.inl ⟨by rfl, ?_⟩) ?_ ?_
       rotate_left
       ·intro w'
        go_simp
        with_reducible rfl
       rotate_left
       ·exact mP
       refine one_ (i := 9) (N := none) #[true, true, true, true, true, true, true, true, true, true, false] rfl rfl (one_of HT_.out (by kernel_rfl)) (by decide) (fun K hK => ?_)
       have hs88 : w87.cell? ⟨gb374, 0, none⟩ = some (.int .i64 0) := (blk_cell BK374.out 0).trans rfl
       have hfs88 := blk_frozen BK374.out 0
       have hns88_1 := NB376_374.out
       have hms88_1 := NB374_376.out
       have hs89 : w87.cell? ⟨gb374, 1, none⟩ = some (.slice none 0 0) := (blk_cell BK374.out 1).trans rfl
       have hfs89 := blk_frozen BK374.out 1
       have hns89_1 := NB376_374.out
       have hms89_1 := NB374_376.out
       have hs90 : w87.cell? ⟨gb374, 2, none⟩ = some (.int .i64 0) := (blk_cell BK374.out 2).trans rfl
       have hfs90 := blk_frozen BK374.out 2
       have hns90_1 := NB376_374.out
       have hms90_1 := NB374_376.out
       have hs91 : w87.cell? ⟨gb374, 3, none⟩ = some (.int .i64 0) := (blk_cell BK374.out 3).trans rfl
       have hfs91 := blk_frozen BK374.out 3
       have hns91_1 := NB376_374.out
       have hms91_1 := NB374_376.out
       have hs92 : w87.cell? ⟨gb374, 4, none⟩ = some (.int .i64 0) := (blk_cell BK374.out 4).trans rfl
       have hfs92 := blk_frozen BK374.out 4
       have hns92_1 := NB376_374.out
       have hms92_1 := NB374_376.out
       have hs93 : w87.cell? ⟨gb374, 5, none⟩ = some (.int .i64 0) := (blk_cell BK374.out 5).trans rfl
       have hfs93 := blk_frozen BK374.out 5
       have hns93_1 := NB376_374.out
       have hms93_1 := NB374_376.out
       have hs94 : w87.cell? ⟨gb374, 6, none⟩ = some (.int .i64 0) := (blk_cell BK374.out 6).trans rfl
       have hfs94 := blk_frozen BK374.out 6
       have hns94_1 := NB376_374.out
       have hms94_1 := NB374_376.out
       have hs95 : w87.cell? ⟨gb374, 7, none⟩ = some (.slice none 0 0) := (blk_cell BK374.out 7).trans rfl
       have hfs95 := blk_frozen BK374.out 7
       have hns95_1 := NB376_374.out
       have hms95_1 := NB374_376.out
       have hs96 : w87.cell? ⟨gb374, 8, none⟩ = some (.int .i64 0) := (blk_cell BK374.out 8).trans rfl
       have hfs96 := blk_frozen BK374.out 8
       have hns96_1 := NB376_374.out
       have hms96_1 := NB374_376.out
       have hs97 : w87.cell? ⟨gb374, 9, none⟩ = some (.int .i64 0) := (blk_cell BK374.out 9).trans rfl
       have hfs97 := blk_frozen BK374.out 9
       have hns97_1 := NB376_374.out
       have hms97_1 := NB374_376.out
       have hs98 : w87.cell? ⟨gb374, 10, none⟩ = some (.slice none 0 0) := (blk_cell BK374.out 10).trans rfl
       have hfs98 := blk_frozen BK374.out 10
       have hns98_1 := NB376_374.out
       have hms98_1 := NB374_376.out
       refine skip_ (w1 := ?_) (by rfl) rfl ?_ ?_
       rotate_left
       ·go_simp
        rfl
       refine hK.out _ _ ⟨((cell_far (p := ⟨gb374, _, none⟩) NB376_374.out _).trans (((cell_far (p := ⟨gb374, _, none⟩) NB376_374.out _).trans (((cell_far (p := ⟨gb374, _, none⟩) NB376_374.out _).trans (((cell_far (p := ⟨gb374, _, none⟩) NB376_374.out _).trans (((cell_far (p := ⟨gb374, _, none⟩) NB376_374.out _).trans (((cell_far (p := ⟨gb374, _, none⟩) NB376_374.out _).trans (((cell_far (p := ⟨gb374, _, none⟩) NB376_374.out _).trans (((cell_far (p := ⟨gb374, _, none⟩) NB376_374.out _).trans (((cell_far (p := ⟨gb374, _, none⟩) NB376_374.out _).trans (((cell_far (p := ⟨gb374, _, none⟩) NB376_374.out _).trans (((cell_far (p := ⟨gb374, _, none⟩) NB376_374.out _).trans (hHeld.1)))))))))))))))))))))), ((cell_far (p := ⟨gb374, _, none⟩) NB376_374.out _).trans (((cell_far (p := ⟨gb374, _, none⟩) NB376_374.out _).trans (((cell_far (p := ⟨gb374, _, none⟩) NB376_374.out _).trans (((cell_far (p := ⟨gb374, _, none⟩) NB376_374.out _).trans (((cell_far (p := ⟨gb374, _, none⟩) NB376_374.out _).trans (((cell_far (p := ⟨gb374, _, none⟩) NB376_374.out _).trans (((cell_far (p := ⟨gb374, _, none⟩) NB376_374.out _).trans (((cell_far (p := ⟨gb374, _, none⟩) NB376_374.out _).trans (((cell_far (p := ⟨gb374, _, none⟩) NB376_374.out _).trans (((cell_far (p := ⟨gb374, _, none⟩) NB376_374.out _).trans (((cell_far (p := ⟨gb374, _, none⟩) NB376_374.out _).trans (hHeld.2.1)))))))))))))))))))))), ((cell_far (p := ⟨gb374, _, none⟩) NB376_374.out _).trans (((cell_far (p := ⟨gb374, _, none⟩) NB376_374.out _).trans (((cell_far (p := ⟨gb374, _, none⟩) NB376_374.out _).trans (((cell_far (p := ⟨gb374, _, none⟩) NB376_374.out _).trans (((cell_far (p := ⟨gb374, _, none⟩) NB376_374.out _).trans (((cell_far (p := ⟨gb374, _, none⟩) NB376_374.out _).trans (((cell_far (p := ⟨gb374, _, none⟩) NB376_374.out _).trans (((cell_far (p := ⟨gb374, _, none⟩) NB376_374.out _).trans (((cell_far (p := ⟨gb374, _, none⟩) NB376_374.out _).trans (((cell_far (p := ⟨gb374, _, none⟩) NB376_374.out _).trans (((cell_far (p := ⟨gb374, _, none⟩) NB376_374.out _).trans (hHeld.2.2.1)))))))))))))))))))))), ((cell_far (p := ⟨gb374, _, none⟩) NB376_374.out _).trans (((cell_far (p := ⟨gb374, _, none⟩) NB376_374.out _).trans (((cell_far (p := ⟨gb374, _, none⟩) NB376_374.out _).trans (((cell_far (p := ⟨gb374, _, none⟩) NB376_374.out _).trans (((cell_far (p := ⟨gb374, _, none⟩) NB376_374.out _).trans (((cell_far (p := ⟨gb374, _, none⟩) NB376_374.out _).trans (((cell_far (p := ⟨gb374, _, none⟩) NB376_374.out _).trans (((cell_far (p := ⟨gb374, _, none⟩) NB376_374.out _).trans (((cell_far (p := ⟨gb374, _, none⟩) NB376_374.out _).trans (((cell_far (p := ⟨gb374, _, none⟩) NB376_374.out _).trans (((cell_far (p := ⟨gb374, _, none⟩) NB376_374.out _).trans (hHeld.2.2.2.1)))))))))))))))))))))), ((cell_far (p := ⟨gb374, _, none⟩) NB376_374.out _).trans (((cell_far (p := ⟨gb374, _, none⟩) NB376_374.out _).trans (((cell_far (p := ⟨gb374, _, none⟩) NB376_374.out _).trans (((cell_far (p := ⟨gb374, _, none⟩) NB376_374.out _).trans (((cell_far (p := ⟨gb374, _, none⟩) NB376_374.out _).trans (((cell_far (p := ⟨gb374, _, none⟩) NB376_374.out _).trans (((cell_far (p := ⟨gb374, _, none⟩) NB376_374.out _).trans (((cell_far (p := ⟨gb374, _, none⟩) NB376_374.out _).trans (((cell_far (p := ⟨gb374, _, none⟩) NB376_374.out _).trans (((cell_far (p := ⟨gb374, _, none⟩) NB376_374.out _).trans (((cell_far (p := ⟨gb374, _, none⟩) NB376_374.out _).trans (hHeld.2.2.2.2.1)))))))))))))))))))))), ((cell_far (p := ⟨gb374, _, none⟩) NB376_374.out _).trans (((cell_far (p := ⟨gb374, _, none⟩) NB376_374.out _).trans (((cell_far (p := ⟨gb374, _, none⟩) NB376_374.out _).trans (((cell_far (p := ⟨gb374, _, none⟩) NB376_374.out _).trans (((cell_far (p := ⟨gb374, _, none⟩) NB376_374.out _).trans (((cell_far (p := ⟨gb374, _, none⟩) NB376_374.out _).trans (((cell_far (p := ⟨gb374, _, none⟩) NB376_374.out _).trans (((cell_far (p := ⟨gb374, _, none⟩) NB376_374.out _).trans (((cell_far (p := ⟨gb374, _, none⟩) NB376_374.out _).trans (((cell_far (p := ⟨gb374, _, none⟩) NB376_374.out _).trans (((cell_far (p := ⟨gb374, _, none⟩) NB376_374.out _).trans (hHeld.2.2.2.2.2.1)))))))))))))))))))))), ((cell_far (p := ⟨gb374, _, none⟩) NB376_374.out _).trans (((cell_far (p := ⟨gb374, _, none⟩) NB376_374.out _).trans (((cell_far (p := ⟨gb374, _, none⟩) NB376_374.out _).trans (((cell_far (p := ⟨gb374, _, none⟩) NB376_374.out _).trans (((cell_far (p := ⟨gb374, _, none⟩) NB376_374.out _).trans (((cell_far (p := ⟨gb374, _, none⟩) NB376_374.out _).trans (((cell_far (p := ⟨gb374, _, none⟩) NB376_374.out _).trans (((cell_far (p := ⟨gb374, _, none⟩) NB376_374.out _).trans (((cell_far (p := ⟨gb374, _, none⟩) NB376_374.out _).trans (((cell_far (p := ⟨gb374, _, none⟩) NB376_374.out _).trans (((cell_far (p := ⟨gb374, _, none⟩) NB376_374.out _).trans (hHeld.2.2.2.2.2.2.1)))))))))))))))))))))), ((cell_far (p := ⟨gb374, _, none⟩) NB376_374.out _).trans (((cell_far (p := ⟨gb374, _, none⟩) NB376_374.out _).trans (((cell_far (p := ⟨gb374, _, none⟩) NB376_374.out _).trans (((cell_far (p := ⟨gb374, _, none⟩) NB376_374.out _).trans (((cell_far (p := ⟨gb374, _, none⟩) NB376_374.out _).trans (((cell_far (p := ⟨gb374, _, none⟩) NB376_374.out _).trans (((cell_far (p := ⟨gb374, _, none⟩) NB376_374.out _).trans (((cell_far (p := ⟨gb374, _, none⟩) NB376_374.out _).trans (((cell_far (p := ⟨gb374, _, none⟩) NB376_374.out _).trans (((cell_far (p := ⟨gb374, _, none⟩) NB376_374.out _).trans (((cell_far (p := ⟨gb374, _, none⟩) NB376_374.out _).trans (hHeld.2.2.2.2.2.2.2.1)))))))))))))))))))))), ((cell_far (p := ⟨gb374, _, none⟩) NB376_374.out _).trans (((cell_far (p := ⟨gb374, _, none⟩) NB376_374.out _).trans (((cell_far (p := ⟨gb374, _, none⟩) NB376_374.out _).trans (((cell_far (p := ⟨gb374, _, none⟩) NB376_374.out _).trans (((cell_far (p := ⟨gb374, _, none⟩) NB376_374.out _).trans (((cell_far (p := ⟨gb374, _, none⟩) NB376_374.out _).trans (((cell_far (p := ⟨gb374, _, none⟩) NB376_374.out _).trans (((cell_far (p := ⟨gb374, _, none⟩) NB376_374.out _).trans (((cell_far (p := ⟨gb374, _, none⟩) NB376_374.out _).trans (((cell_far (p := ⟨gb374, _, none⟩) NB376_374.out _).trans (((cell_far (p := ⟨gb374, _, none⟩) NB376_374.out _).trans (hHeld.2.2.2.2.2.2.2.2.1)))))))))))))))))))))), ((cell_far (p := ⟨gb374, _, none⟩) NB376_374.out _).trans (((cell_far (p := ⟨gb374, _, none⟩) NB376_374.out _).trans (((cell_far (p := ⟨gb374, _, none⟩) NB376_374.out _).trans (((cell_far (p := ⟨gb374, _, none⟩) NB376_374.out _).trans (((cell_far (p := ⟨gb374, _, none⟩) NB376_374.out _).trans (((cell_far (p := ⟨gb374, _, none⟩) NB376_374.out _).trans (((cell_far (p := ⟨gb374, _, none⟩) NB376_374.out _).trans (((cell_far (p := ⟨gb374, _, none⟩) NB376_374.out _).trans (((cell_far (p := ⟨gb374, _, none⟩) NB376_374.out _).trans (((cell_far (p := ⟨gb374, _, none⟩) NB376_374.out _).trans (((cell_far (p := ⟨gb374, _, none⟩) NB376_374.out _).trans (hHeld.2.2.2.2.2.2.2.2.2.1)))))))))))))))))))))), ((cell_far (p := ⟨gb374, _, none⟩) NB376_374.out _).trans (((cell_far (p := ⟨gb374, _, none⟩) NB376_374.out _).trans (((cell_far (p := ⟨gb374, _, none⟩) NB376_374.out _).trans (((cell_far (p := ⟨gb374, _, none⟩) NB376_374.out _).trans (((cell_far (p := ⟨gb374, _, none⟩) NB376_374.out _).trans (((cell_far (p := ⟨gb374, _, none⟩) NB376_374.out _).trans (((cell_far (p := ⟨gb374, _, none⟩) NB376_374.out _).trans (((cell_far (p := ⟨gb374, _, none⟩) NB376_374.out _).trans (((cell_far (p := ⟨gb374, _, none⟩) NB376_374.out _).trans (((cell_far (p := ⟨gb374, _, none⟩) NB376_374.out _).trans (((cell_far (p := ⟨gb374, _, none⟩) NB376_374.out _).trans (hHeld.2.2.2.2.2.2.2.2.2.2))))))))))))))))))))))⟩ (fun hHeld => ?_)
       clear hK K
       refine pure_ (i := 10) (N := some 3) (v := ?_) (a' := ?_) #[true, true, true, true, true, true, true, true, true, true, true] rfl rfl (any_of HT_.out (by kernel_rfl)) (fun _ _ _ h => h) (Or.inl ⟨by rfl, ?_⟩) ?_ ?_
       rotate_left
       ·intro w'
        go_simp
        with_reducible rfl
       rotate_left
       ·exact mP
       refine done_ (done_of HT_.out (by kernel_rfl)) ?_
       try go_wp2
       refine bodyPost_ret (results_ct rfl _ _ gb374 50 #[.int .i64 t375, .slice Ao84 x377001_2.length co84, .int .i64 x377002_2, .int .i64 x377003_2, .int .i64 x377004_2, .int .i64 x377005_2, .int .i64 x377006_2, .slice Ao85 x377007_18.length co85, .int .i64 0, .int .i64 0, .slice none 0 0] (0, 0) _ rfl (by (with_reducible repeat (first | refine blk_drewN ?_ _ | refine blk_drew ?_ | refine blk_alloc ?_ _)); have h_ := BK374.out; exact pK 10 (pK 9 (pK 8 (pK 7 (pK 6 (pK 5 (pK 4 (pK 3 (pK 2 (pK 1 (pK 0 (h_)))))))))))) Try.underlying50 rfl (by kernel_rfl)) rfl ?_
       exact ⟨_, _, _, by first | rfl | (simp [errW_none, errW_some] <;> rfl) | (simp [*, errW_none, errW_some] <;> rfl), by (with_reducible repeat (first | apply Kd.R_alloc | apply Kd.R_drewN | apply Kd.R_drew)); exact Kd.R_mono (rF 10 (rF 9 (rF 8 (rF 7 (rF 6 (rF 5 (rF 4 (rF 3 (rF 2 (rF 1 (rF 0 (Kd.R_types HO_377001.out BK374.out (by decide))))))))))))) (fun _ hk => hk.1), by (with_reducible repeat (first | apply Kd.R_alloc | apply Kd.R_drewN | apply Kd.R_drew)); exact Kd.R_mono (rF 10 (rF 9 (rF 8 (rF 7 (rF 6 (rF 5 (rF 4 (rF 3 (rF 2 (rF 1 (rF 0 (Kd.R_types HO_377007.out BK374.out (by decide))))))))))))) (fun _ hk => hk.1), by first | exact Kd.R_nil _ _ _ _ _ | exact Kd.N_nil _ _ _ _ _ | exact Kd.V_nil _ _ _ _ _ | exact Kd.Q_nil _ _ _ _ _ | exact Kd.S_nil _ _ _ _ _, by repeat (first | (with_reducible first | exact HB.out | apply below_alloc | apply pw_below_drewN | apply below_drew1 | refine below_set ?_ GE374.out | refine below_set ?_ GE376.out) | exact HB.out)⟩
      ·replace c79 := Bool.eq_false_iff.mpr c79
       subst c79
       have H1 : (some (t375, x377001_2, x377002_2, x377003_2, x377004_2, x377005_2, x377006_2, x377007_18, 0, 0, ([] : List (S35)), false)) = some (r1, r2, r3, r4, r5, r6, r7, r8, r9, r10, r11, r12) := by rw [if_neg (show ¬ (false = true) by decide)] at H; exact H
       clear H
       have H := H1
       clear H1
       simp only [Option.some.injEq, Prod.mk.injEq] at H
       obtain ⟨rfl, rfl, rfl, rfl, rfl, rfl, rfl, rfl, rfl, rfl, rfl, rfl⟩ := H
       have hnb99 := NB376_374.out
       have hnc99 := NB374_376.out
       obtain ⟨hcz100_0, hcz100_1, hcz100_2, hcz100_3, hcz100_4, hcz100_5, hcz100_6, hcz100_7, hcz100_8, hcz100_9, hcz100_10⟩ := bC11 BK376.out
       obtain ⟨hfz100_0, hfz100_1, hfz100_2, hfz100_3, hfz100_4, hfz100_5, hfz100_6, hfz100_7, hfz100_8, hfz100_9, hfz100_10⟩ := bF11 BK376.out
       try go_wp2
       have n0_ := aA (Kd.R_drew HO_377001.out)
       have n1_ := aA (Kd.R_drew HO_377007.out)
       have n2_ := aA (blk_drew BK374.out)
       have n3_ := aA (blk_drew BK376.out)
       have n4_ := aA (below_drew1 HB.out)
       clear HO_377001
       clear HO_377007
       clear BK374
       clear BK376
       clear HB
       have HO_377001 := n0_
       have HO_377007 := n1_
       have BK374 := n2_
       have BK376 := n3_
       have HB := n4_
       clear n0_ n1_ n2_ n3_ n4_
       obtain ⟨Ao102, co102, eo102⟩ := Kd.R_slice HO_377001.out
       (first | subst eo102 | (injection eo102 with f1_ f2_ f3_; have f4_ := f1_.symm; have f5_ := f3_.symm; clear f1_ f2_ f3_; subst f4_; subst f5_))
       obtain ⟨Ao103, co103, eo103⟩ := Kd.R_slice HO_377007.out
       (first | subst eo103 | (injection eo103 with f1_ f2_ f3_; have f4_ := f1_.symm; have f5_ := f3_.symm; clear f1_ f2_ f3_; subst f4_; subst f5_))
       refine start_ (n := 11) (S := fun w' => w'.cell? ⟨gb376, 0, none⟩ = some (.int .i64 t375) ∧ w'.cell? ⟨gb376, 1, none⟩ = some (.slice Ao102 x377001_2.length co102) ∧ w'.cell? ⟨gb376, 2, none⟩ = some (.int .i64 x377002_2) ∧ w'.cell? ⟨gb376, 3, none⟩ = some (.int .i64 x377003_2) ∧ w'.cell? ⟨gb376, 4, none⟩ = some (.int .i64 x377004_2) ∧ w'.cell? ⟨gb376, 5, none⟩ = some (.int .i64 x377005_2) ∧ w'.cell? ⟨gb376, 6, none⟩ = some (.int .i64 x377006_2) ∧ w'.cell? ⟨gb376, 7, none⟩ = some (.slice Ao103 x377007_18.length co103) ∧ w'.cell? ⟨gb376, 8, none⟩ = some (.int .i64 0) ∧ w'.cell? ⟨gb376, 9, none⟩ = some (.int .i64 0) ∧ w'.cell? ⟨gb376, 10, none⟩ = some (.slice none 0 0)) (ds := []) #[false, false, false, false, false, false, false, false, false, false, false] (by kernel_rfl) rfl rfl (bC11 BK376.out) (fun hHeld => ?_); refine with_tabW foghornref17_Get.tab8 foghornref17_Get.bits8 (fun HT_ HW_ => ?_)
       generalize wc.drew = w101 at HO_377001 HO_377007 BK374 BK376 HB hHeld ⊢
       refine take_ (i := 0) (N := some 42) (v := ?_) (a' := ?_) #[true, false, false, false, false, false, false, false, false, false, false] rfl rfl (take_ofW HT_.out HW_.out (by kernel_rfl)) (fun _ _ _ h => h) (Or.inl ⟨by rfl, ?_⟩) hHeld ?_ ?_
       rotate_left
       ·rintro w' ⟨s0, s1, s2, s3, s4, s5, s6, s7, s8, s9, s10⟩
        go_simp
        with_reducible rfl
       rotate_left
       ·exact mP
       refine take_ (i := 1) (N := some 43) (v := ?_) (a' := ?_) #[true, true, false, false, false, false, false, false, false, false, false] rfl rfl (take_ofW HT_.out HW_.out (by kernel_rfl)) (fun _ _ _ h => h) (Or.inl ⟨by rfl, ?_⟩) hHeld ?_ ?_
       rotate_left
       ·rintro w' ⟨s0, s1, s2, s3, s4, s5, s6, s7, s8, s9, s10⟩
        go_simp
        with_reducible rfl
       rotate_left
       ·exact mP
       refine one_ (i := 2) (N := some 44) #[true, true, true, false, false, false, false, false, false, false, false] rfl rfl (one_of HT_.out (by kernel_rfl)) (by decide) (fun K hK => ?_)
       refine goes_ Try.func27 (by kernel_rfl) rfl #[.agg #[.int .i64 t375, .slice Ao102 x377001_2.length co102, .int .i64 x377002_2, .int .i64 x377003_2, .int .i64 x377004_2, .int .i64 x377005_2, .int .i64 x377006_2, .slice Ao103 x377007_18.length co103, .int .i64 0, .int .i64 0, .slice none 0 0]] (by rfl) rfl rfl mS ?_
       refine (foghornref17_Right.calls kj18 t375 _ _ x377001_2 x377002_2 x377003_2 x377004_2 x377005_2 x377006_2 _ _ x377007_18 0 0 _ _ ([] : List (S35)) false _ ?side1 ?side2 ?side3 ?side4 ?side5 ?side6 A78.out).mono ?_
       (case side1 => exact mC ((Kd.R_reads' HO_377001.out).2.2))
       (case side2 => exact (Kd.R_reads' HO_377001.out).2.1)
       (case side3 => exact mC ((Kd.R_reads' HO_377007.out).2.2))
       (case side4 => exact (Kd.R_reads' HO_377007.out).2.1)
       (case side5 => exact Kd.C_nil _ _)
       (case side6 => exact Nat.le_refl _)
       rintro e w104 ⟨rfl, hb⟩
       refine ⟨_, rfl, ?_⟩
       have n0_ := aA (Kd.R_below (mR HO_377001.out) hb)
       have n1_ := aA (Kd.R_below (mR HO_377007.out) hb)
       have n2_ := aA (bB BK374.out hb)
       have n3_ := aA (bB BK376.out hb)
       have n4_ := aA (below_step (mD2 GE374.out GE376.out) hb)
       clear HO_377001
       clear HO_377007
       clear BK374
       clear BK376
       clear HB
       have HO_377001 := n0_
       have HO_377007 := n1_
       have BK374 := n2_
       have BK376 := n3_
       have HB := n4_
       clear n0_ n1_ n2_ n3_ n4_
       (try clear hb)
       (try clear hb2)
       (try clear hk)
       (try clear hi)
       refine hK.out _ _ (bC11 BK376.out) (fun hHeld => ?_)
       clear hK K
       refine norm_ (a' := ?_) ?_ ?_
       rotate_left
       ·show Act.put _ (some 44) _ = _
        simp only [Act.put, List.setIfInBounds_toArray, List.set_cons_zero, List.set_cons_succ, i64_w, i32_w]
        rfl
       refine pure_ (i := 3) (N := some 45) (v := ?_) (a' := ?_) #[true, true, true, true, false, false, false, false, false, false, false] rfl rfl (any_of HT_.out (by kernel_rfl)) (fun _ _ _ h => h) (Or.inl ⟨by rfl, ?_⟩) ?_ ?_
       rotate_left
       ·intro w'
        go_simp
        with_reducible rfl
       rotate_left
       ·exact mP
       refine pure_ (i := 4) (N := some 46) (v := undef) (a' := ?_) #[true, true, true, true, true, false, false, false, false, false, false] rfl rfl (any_of HT_.out (by kernel_rfl)) (fun _ _ _ h => h) (Or.inr ⟨by rfl, rfl⟩) ?_ ?_
       rotate_left
       ·exact mP
       refine pure_ (i := 5) (N := some 47) (v := undef) (a' := ?_) #[true, true, true, true, true, true, false, false, false, false, false] rfl rfl (any_of HT_.out (by kernel_rfl)) (fun _ _ _ h => h) (Or.inr ⟨by rfl, rfl⟩) ?_ ?_
       rotate_left
       ·exact mP
       refine pure_ (i := 6) (N := some 48) (v := undef) (a' := ?_) #[true, true, true, true, true, true, true, false, false, false, false] rfl rfl (any_of HT_.out (by kernel_rfl)) (fun _ _ _ h => h) (Or.inr ⟨by rfl, rfl⟩) ?_ ?_
       rotate_left
       ·exact mP
       refine pure_ (i := 7) (N := some 49) (v := undef) (a' := ?_) #[true, true, true, true, true, true, true, true, false, false, false] rfl rfl (any_of HT_.out (by kernel_rfl)) (fun _ _ _ h => h) (Or.inr ⟨by rfl, rfl⟩) ?_ ?_
       rotate_left
       ·exact mP
       refine pure_ (i := 8) (N := some 50) (v := ?_) (a' := ?_) #[true, true, true, true, true, true, true, true, true, false, false] rfl rfl (any_of HT_.out (by kernel_rfl)) (fun _ _ _ h => h) (Or.inl ⟨by rfl, ?_⟩) ?_ ?_
       rotate_left
       ·intro w'
        go_simp
        with_reducible rfl
       rotate_left
       ·exact mP
       refine one_ (i := 9) (N := none) #[true, true, true, true, true, true, true, true, true, true, false] rfl rfl (one_of HT_.out (by kernel_rfl)) (by decide) (fun K hK => ?_)
       have hs105 : w104.cell? ⟨gb374, 0, none⟩ = some (.int .i64 0) := (blk_cell BK374.out 0).trans rfl
       have hfs105 := blk_frozen BK374.out 0
       have hns105_1 := NB376_374.out
       have hms105_1 := NB374_376.out
       have hs106 : w104.cell? ⟨gb374, 1, none⟩ = some (.slice none 0 0) := (blk_cell BK374.out 1).trans rfl
       have hfs106 := blk_frozen BK374.out 1
       have hns106_1 := NB376_374.out
       have hms106_1 := NB374_376.out
       have hs107 : w104.cell? ⟨gb374, 2, none⟩ = some (.int .i64 0) := (blk_cell BK374.out 2).trans rfl
       have hfs107 := blk_frozen BK374.out 2
       have hns107_1 := NB376_374.out
       have hms107_1 := NB374_376.out
       have hs108 : w104.cell? ⟨gb374, 3, none⟩ = some (.int .i64 0) := (blk_cell BK374.out 3).trans rfl
       have hfs108 := blk_frozen BK374.out 3
       have hns108_1 := NB376_374.out
       have hms108_1 := NB374_376.out
       have hs109 : w104.cell? ⟨gb374, 4, none⟩ = some (.int .i64 0) := (blk_cell BK374.out 4).trans rfl
       have hfs109 := blk_frozen BK374.out 4
       have hns109_1 := NB376_374.out
       have hms109_1 := NB374_376.out
       have hs110 : w104.cell? ⟨gb374, 5, none⟩ = some (.int .i64 0) := (blk_cell BK374.out 5).trans rfl
       have hfs110 := blk_frozen BK374.out 5
       have hns110_1 := NB376_374.out
       have hms110_1 := NB374_376.out
       have hs111 : w104.cell? ⟨gb374, 6, none⟩ = some (.int .i64 0) := (blk_cell BK374.out 6).trans rfl
       have hfs111 := blk_frozen BK374.out 6
       have hns111_1 := NB376_374.out
       have hms111_1 := NB374_376.out
       have hs112 : w104.cell? ⟨gb374, 7, none⟩ = some (.slice none 0 0) := (blk_cell BK374.out 7).trans rfl
       have hfs112 := blk_frozen BK374.out 7
       have hns112_1 := NB376_374.out
       have hms112_1 := NB374_376.out
       have hs113 : w104.cell? ⟨gb374, 8, none⟩ = some (.int .i64 0) := (blk_cell BK374.out 8).trans rfl
       have hfs113 := blk_frozen BK374.out 8
       have hns113_1 := NB376_374.out
       have hms113_1 := NB374_376.out
       have hs114 : w104.cell? ⟨gb374, 9, none⟩ = some (.int .i64 0) := (blk_cell BK374.out 9).trans rfl
       have hfs114 := blk_frozen BK374.out 9
       have hns114_1 := NB376_374.out
       have hms114_1 := NB374_376.out
       have hs115 : w104.cell? ⟨gb374, 10, none⟩ = some (.slice none 0 0) := (blk_cell BK374.out 10).trans rfl
       have hfs115 := blk_frozen BK374.out 10
       have hns115_1 := NB376_374.out
       have hms115_1 := NB374_376.out
       refine skip_ (w1 := ?_) (by rfl) rfl ?_ ?_
       rotate_left
       ·go_simp
        rfl
       refine hK.out _ _ ⟨((cell_far (p := ⟨gb374, _, none⟩) NB376_374.out _).trans (((cell_far (p := ⟨gb374, _, none⟩) NB376_374.out _).trans (((cell_far (p := ⟨gb374, _, none⟩) NB376_374.out _).trans (((cell_far (p := ⟨gb374, _, none⟩) NB376_374.out _).trans (((cell_far (p := ⟨gb374, _, none⟩) NB376_374.out _).trans (((cell_far (p := ⟨gb374, _, none⟩) NB376_374.out _).trans (((cell_far (p := ⟨gb374, _, none⟩) NB376_374.out _).trans (((cell_far (p := ⟨gb374, _, none⟩) NB376_374.out _).trans (((cell_far (p := ⟨gb374, _, none⟩) NB376_374.out _).trans (((cell_far (p := ⟨gb374, _, none⟩) NB376_374.out _).trans (((cell_far (p := ⟨gb374, _, none⟩) NB376_374.out _).trans (hHeld.1)))))))))))))))))))))), ((cell_far (p := ⟨gb374, _, none⟩) NB376_374.out _).trans (((cell_far (p := ⟨gb374, _, none⟩) NB376_374.out _).trans (((cell_far (p := ⟨gb374, _, none⟩) NB376_374.out _).trans (((cell_far (p := ⟨gb374, _, none⟩) NB376_374.out _).trans (((cell_far (p := ⟨gb374, _, none⟩) NB376_374.out _).trans (((cell_far (p := ⟨gb374, _, none⟩) NB376_374.out _).trans (((cell_far (p := ⟨gb374, _, none⟩) NB376_374.out _).trans (((cell_far (p := ⟨gb374, _, none⟩) NB376_374.out _).trans (((cell_far (p := ⟨gb374, _, none⟩) NB376_374.out _).trans (((cell_far (p := ⟨gb374, _, none⟩) NB376_374.out _).trans (((cell_far (p := ⟨gb374, _, none⟩) NB376_374.out _).trans (hHeld.2.1)))))))))))))))))))))), ((cell_far (p := ⟨gb374, _, none⟩) NB376_374.out _).trans (((cell_far (p := ⟨gb374, _, none⟩) NB376_374.out _).trans (((cell_far (p := ⟨gb374, _, none⟩) NB376_374.out _).trans (((cell_far (p := ⟨gb374, _, none⟩) NB376_374.out _).trans (((cell_far (p := ⟨gb374, _, none⟩) NB376_374.out _).trans (((cell_far (p := ⟨gb374, _, none⟩) NB376_374.out _).trans (((cell_far (p := ⟨gb374, _, none⟩) NB376_374.out _).trans (((cell_far (p := ⟨gb374, _, none⟩) NB376_374.out _).trans (((cell_far (p := ⟨gb374, _, none⟩) NB376_374.out _).trans (((cell_far (p := ⟨gb374, _, none⟩) NB376_374.out _).trans (((cell_far (p := ⟨gb374, _, none⟩) NB376_374.out _).trans (hHeld.2.2.1)))))))))))))))))))))), ((cell_far (p := ⟨gb374, _, none⟩) NB376_374.out _).trans (((cell_far (p := ⟨gb374, _, none⟩) NB376_374.out _).trans (((cell_far (p := ⟨gb374, _, none⟩) NB376_374.out _).trans (((cell_far (p := ⟨gb374, _, none⟩) NB376_374.out _).trans (((cell_far (p := ⟨gb374, _, none⟩) NB376_374.out _).trans (((cell_far (p := ⟨gb374, _, none⟩) NB376_374.out _).trans (((cell_far (p := ⟨gb374, _, none⟩) NB376_374.out _).trans (((cell_far (p := ⟨gb374, _, none⟩) NB376_374.out _).trans (((cell_far (p := ⟨gb374, _, none⟩) NB376_374.out _).trans (((cell_far (p := ⟨gb374, _, none⟩) NB376_374.out _).trans (((cell_far (p := ⟨gb374, _, none⟩) NB376_374.out _).trans (hHeld.2.2.2.1)))))))))))))))))))))), ((cell_far (p := ⟨gb374, _, none⟩) NB376_374.out _).trans (((cell_far (p := ⟨gb374, _, none⟩) NB376_374.out _).trans (((cell_far (p := ⟨gb374, _, none⟩) NB376_374.out _).trans (((cell_far (p := ⟨gb374, _, none⟩) NB376_374.out _).trans (((cell_far (p := ⟨gb374, _, none⟩) NB376_374.out _).trans (((cell_far (p := ⟨gb374, _, none⟩) NB376_374.out _).trans (((cell_far (p := ⟨gb374, _, none⟩) NB376_374.out _).trans (((cell_far (p := ⟨gb374, _, none⟩) NB376_374.out _).trans (((cell_far (p := ⟨gb374, _, none⟩) NB376_374.out _).trans (((cell_far (p := ⟨gb374, _, none⟩) NB376_374.out _).trans (((cell_far (p := ⟨gb374, _, none⟩) NB376_374.out _).trans (hHeld.2.2.2.2.1)))))))))))))))))))))), ((cell_far (p := ⟨gb374, _, none⟩) NB376_374.out _).trans (((cell_far (p := ⟨gb374, _, none⟩) NB376_374.out _).trans (((cell_far (p := ⟨gb374, _, none⟩) NB376_374.out _).trans (((cell_far (p := ⟨gb374, _, none⟩) NB376_374.out _).trans (((cell_far (p := ⟨gb374, _, none⟩) NB376_374.out _).trans (((cell_far (p := ⟨gb374, _, none⟩) NB376_374.out _).trans (((cell_far (p := ⟨gb374, _, none⟩) NB376_374.out _).trans (((cell_far (p := ⟨gb374, _, none⟩) NB376_374.out _).trans (((cell_far (p := ⟨gb374, _, none⟩) NB376_374.out _).trans (((cell_far (p := ⟨gb374, _, none⟩) NB376_374.out _).trans (((cell_far (p := ⟨gb374, _, none⟩) NB376_374.out _).trans (hHeld.2.2.2.2.2.1)))))))))))))))))))))), ((cell_far (p := ⟨gb374, _, none⟩) NB376_374.out _).trans (((cell_far (p := ⟨gb374, _, none⟩) NB376_374.out _).trans (((cell_far (p := ⟨gb374, _, none⟩) NB376_374.out _).trans (((cell_far (p := ⟨gb374, _, none⟩) NB376_374.out _).trans (((cell_far (p := ⟨gb374, _, none⟩) NB376_374.out _).trans (((cell_far (p := ⟨gb374, _, none⟩) NB376_374.out _).trans (((cell_far (p := ⟨gb374, _, none⟩) NB376_374.out _).trans (((cell_far (p := ⟨gb374, _, none⟩) NB376_374.out _).trans (((cell_far (p := ⟨gb374, _, none⟩) NB376_374.out _).trans (((cell_far (p := ⟨gb374, _, none⟩) NB376_374.out _).trans (((cell_far (p := ⟨gb374, _, none⟩) NB376_374.out _).trans (hHeld.2.2.2.2.2.2.1)))))))))))))))))))))), ((cell_far (p := ⟨gb374, _, none⟩) NB376_374.out _).trans (((cell_far (p := ⟨gb374, _, none⟩) NB376_374.out _).trans (((cell_far (p := ⟨gb374, _, none⟩) NB376_374.out _).trans (((cell_far (p := ⟨gb374, _, none⟩) NB376_374.out _).trans (((cell_far (p := ⟨gb374, _, none⟩) NB376_374.out _).trans (((cell_far (p := ⟨gb374, _, none⟩) NB376_374.out _).trans (((cell_far (p := ⟨gb374, _, none⟩) NB376_374.out _).trans (((cell_far (p := ⟨gb374, _, none⟩) NB376_374.out _).trans (((cell_far (p := ⟨gb374, _, none⟩) NB376_374.out _).trans (((cell_far (p := ⟨gb374, _, none⟩) NB376_374.out _).trans (((cell_far (p := ⟨gb374, _, none⟩) NB376_374.out _).trans (hHeld.2.2.2.2.2.2.2.1)))))))))))))))))))))), ((cell_far (p := ⟨gb374, _, none⟩) NB376_374.out _).trans (((cell_far (p := ⟨gb374, _, none⟩) NB376_374.out _).trans (((cell_far (p := ⟨gb374, _, none⟩) NB376_374.out _).trans (((cell_far (p := ⟨gb374, _, none⟩) NB376_374.out _).trans (((cell_far (p := ⟨gb374, _, none⟩) NB376_374.out _).trans (((cell_far (p := ⟨gb374, _, none⟩) NB376_374.out _).trans (((cell_far (p := ⟨gb374, _, none⟩) NB376_374.out _).trans (((cell_far (p := ⟨gb374, _, none⟩) NB376_374.out _).trans (((cell_far (p := ⟨gb374, _, none⟩) NB376_374.out _).trans (((cell_far (p := ⟨gb374, _, none⟩) NB376_374.out _).trans (((cell_far (p := ⟨gb374, _, none⟩) NB376_374.out _).trans (hHeld.2.2.2.2.2.2.2.2.1)))))))))))))))))))))), ((cell_far (p := ⟨gb374, _, none⟩) NB376_374.out _).trans (((cell_far (p := ⟨gb374, _, none⟩) NB376_374.out _).trans (((cell_far (p := ⟨gb374, _, none⟩) NB376_374.out _).trans (((cell_far (p := ⟨gb374, _, none⟩) NB376_374.out _).trans (((cell_far (p := ⟨gb374, _, none⟩) NB376_374.out _).trans (((cell_far (p := ⟨gb374, _, none⟩) NB376_374.out _).trans (((cell_far (p := ⟨gb374, _, none⟩) NB376_374.out _).trans (((cell_far (p := ⟨gb374, _, none⟩) NB376_374.out _).trans (((cell_far (p := ⟨gb374, _, none⟩) NB376_374.out _).trans (((cell_far (p := ⟨gb374, _, none⟩) NB376_374.out _).trans (((cell_far (p := ⟨gb374, _, none⟩) NB376_374.out _).trans (hHeld.2.2.2.2.2.2.2.2.2.1)))))))))))))))))))))), ((cell_far (p := ⟨gb374, _, none⟩) NB376_374.out _).trans (((cell_far (p := ⟨gb374, _, none⟩) NB376_374.out _).trans (((cell_far (p := ⟨gb374, _, none⟩) NB376_374.out _).trans (((cell_far (p := ⟨gb374, _, none⟩) NB376_374.out _).trans (((cell_far (p := ⟨gb374, _, none⟩) NB376_374.out _).trans (((cell_far (p := ⟨gb374, _, none⟩) NB376_374.out _).trans (((cell_far (p := ⟨gb374, _, none⟩) NB376_374.out _).trans (((cell_far (p := ⟨gb374, _, none⟩) NB376_374.out _).trans (((cell_far (p := ⟨gb374, _, none⟩) NB376_374.out _).trans (((cell_far (p := ⟨gb374, _, none⟩) NB376_374.out _).trans (((cell_far (p := ⟨gb374, _, none⟩) NB376_374.out _).trans (hHeld.2.2.2.2.2.2.2.2.2.2))))))))))))))))))))))⟩ (fun hHeld => ?_)
       clear hK K
       refine pure_ (i := 10) (N := some 3) (v := ?_) (a' := ?_) #[true, true, true, true, true, true, true, true, true, true, true] rfl rfl (any_of HT_.out (by kernel_rfl)) (fun _ _ _ h => h) (Or.inl ⟨by rfl, ?_⟩) ?_ ?_
       rotate_left
       ·intro w'
        go_simp
        with_reducible rfl
       rotate_left
       ·exact mP
       refine done_ (done_of HT_.out (by kernel_rfl)) ?_
       try go_wp2
       refine bodyPost_ret (results_ct rfl _ _ gb374 50 #[.int .i64 t375, .slice Ao102 x377001_2.length co102, .int .i64 x377002_2, .int .i64 x377003_2, .int .i64 x377004_2, .int .i64 x377005_2, .int .i64 x377006_2, .slice Ao103 x377007_18.length co103, .int .i64 0, .int .i64 0, .slice none 0 0] (0, 0) _ rfl (by (with_reducible repeat (first | refine blk_drewN ?_ _ | refine blk_drew ?_ | refine blk_alloc ?_ _)); have h_ := BK374.out; exact pK 10 (pK 9 (pK 8 (pK 7 (pK 6 (pK 5 (pK 4 (pK 3 (pK 2 (pK 1 (pK 0 (h_)))))))))))) Try.underlying50 rfl (by kernel_rfl)) rfl ?_
       exact ⟨_, _, _, by first | rfl | (simp [errW_none, errW_some] <;> rfl) | (simp [*, errW_none, errW_some] <;> rfl), by (with_reducible repeat (first | apply Kd.R_alloc | apply Kd.R_drewN | apply Kd.R_drew)); exact Kd.R_mono (rF 10 (rF 9 (rF 8 (rF 7 (rF 6 (rF 5 (rF 4 (rF 3 (rF 2 (rF 1 (rF 0 (Kd.R_types HO_377001.out BK374.out (by decide))))))))))))) (fun _ hk => hk.1), by (with_reducible repeat (first | apply Kd.R_alloc | apply Kd.R_drewN | apply Kd.R_drew)); exact Kd.R_mono (rF 10 (rF 9 (rF 8 (rF 7 (rF 6 (rF 5 (rF 4 (rF 3 (rF 2 (rF 1 (rF 0 (Kd.R_types HO_377007.out BK374.out (by decide))))))))))))) (fun _ hk => hk.1), by first | exact Kd.R_nil _ _ _ _ _ | exact Kd.N_nil _ _ _ _ _ | exact Kd.V_nil _ _ _ _ _ | exact Kd.Q_nil _ _ _ _ _ | exact Kd.S_nil _ _ _ _ _, by repeat (first | (with_reducible first | exact HB.out | apply below_alloc | apply pw_below_drewN | apply below_drew1 | refine below_set ?_ GE374.out | refine below_set ?_ GE376.out) | exact HB.out)⟩
end Go.Proofs.YtndgollcganhmaaQ.P
namespace Go.Proofs.YtndgollcganhmaaQ.P
open Go.RowKit Go.Proofs.YtndgollcganhmaaW.PrintWords Go.Proofs.YtndgollcganhmaaW.PrintLast Go.Proofs.YtndgollcganhmaaW.PrintMore
attribute [local go_sem] max2_int min2_int max_two min_two max_three min_three max_four min_four
def foghornref17_Same.f (k : Nat) (a0_0 : Int) (l0_1 : List (S41)) (a0_2 : Int) (a0_3 : Int) (a0_4 : Int) (a0_5 : Int) (a0_6 : Int) (l0_7 : List (S41)) (a0_8 : Int) (a0_9 : Int) (l0_10 : List (S35)) (a1_0 : Int) (l1_1 : List (S41)) (a1_2 : Int) (a1_3 : Int) (a1_4 : Int) (a1_5 : Int) (a1_6 : Int) (l1_7 : List (S41)) (a1_8 : Int) (a1_9 : Int) (l1_10 : List (S35)) : Option (Bool) := if a0_0 = a1_0 then ((foghornref16_Same.f l0_1 a0_2 a0_3 a0_4 a0_5 a0_6 l1_1 a1_2 a1_3 a1_4 a1_5 a1_6).bind fun t399 => (if t399 = true then ((foghornref10_Same.f l0_7 l1_7).bind fun t400 => (if t400 = true then ((foghornref12_Hushes.f k a0_8 a0_9 l0_10 a1_8 a1_9 l1_10).bind fun t401 => (some t401)) else (some false))) else (some false))) else (some false)
set_option maxHeartbeats 8000000 in
set_option maxRecDepth 100000 in
theorem foghornref17_Same.calls (k : Nat) (a0_0 : Int) (A0_1 : Option Addr) (c0_1 : Nat) (l0_1 : List (S41)) (a0_2 : Int) (a0_3 : Int) (a0_4 : Int) (a0_5 : Int) (a0_6 : Int) (A0_7 : Option Addr) (c0_7 : Nat) (l0_7 : List (S41)) (a0_8 : Int) (a0_9 : Int) (A0_10 : Option Addr) (c0_10 : Nat) (l0_10 : List (S35)) (a1_0 : Int) (A1_1 : Option Addr) (c1_1 : Nat) (l1_1 : List (S41)) (a1_2 : Int) (a1_3 : Int) (a1_4 : Int) (a1_5 : Int) (a1_6 : Int) (A1_7 : Option Addr) (c1_7 : Nat) (l1_7 : List (S41)) (a1_8 : Int) (a1_9 : Int) (A1_10 : Option Addr) (c1_10 : Nat) (l1_10 : List (S35)) (r : Bool) (w : World) (hr0_1 : Kd.C k41 w A0_1 l0_1.length l0_1) (hc0_1 : l0_1.length ≤ c0_1) (hr0_7 : Kd.C k41 w A0_7 l0_7.length l0_7) (hc0_7 : l0_7.length ≤ c0_7) (hr0_10 : Kd.C k35 w A0_10 l0_10.length l0_10) (hc0_10 : l0_10.length ≤ c0_10) (hr1_1 : Kd.C k41 w A1_1 l1_1.length l1_1) (hc1_1 : l1_1.length ≤ c1_1) (hr1_7 : Kd.C k41 w A1_7 l1_7.length l1_7) (hc1_7 : l1_7.length ≤ c1_7) (hr1_10 : Kd.C k35 w A1_10 l1_10.length l1_10) (hc1_10 : l1_10.length ≤ c1_10) (h : foghornref17_Same.f k a0_0 l0_1 a0_2 a0_3 a0_4 a0_5 a0_6 l0_7 a0_8 a0_9 l0_10 a1_0 l1_1 a1_2 a1_3 a1_4 a1_5 a1_6 l1_7 a1_8 a1_9 l1_10 = some r) :
  Calls Try.prog 32 #[.agg #[.int .i64 a0_0, .slice A0_1 l0_1.length c0_1, .int .i64 a0_2, .int .i64 a0_3, .int .i64 a0_4, .int .i64 a0_5, .int .i64 a0_6, .slice A0_7 l0_7.length c0_7, .int .i64 a0_8, .int .i64 a0_9, .slice A0_10 l0_10.length c0_10], .agg #[.int .i64 a1_0, .slice A1_1 l1_1.length c1_1, .int .i64 a1_2, .int .i64 a1_3, .int .i64 a1_4, .int .i64 a1_5, .int .i64 a1_6, .slice A1_7 l1_7.length c1_7, .int .i64 a1_8, .int .i64 a1_9, .slice A1_10 l1_10.length c1_10]] w fun e w' => e = .returned (.bool r) ∧ Below w.heap.size w w' := by
 have hu50 := Try.underlying50
 have hu46 := Try.underlying46
 have hu48 := Try.underlying48
 have HR0_1 := aA hr0_1
 have HC0_1 := aA hc0_1
 clear hr0_1 hc0_1
 have HR0_7 := aA hr0_7
 have HC0_7 := aA hc0_7
 clear hr0_7 hc0_7
 have HR0_10 := aA hr0_10
 have HC0_10 := aA hc0_10
 clear hr0_10 hc0_10
 have HR1_1 := aA hr1_1
 have HC1_1 := aA hc1_1
 clear hr1_1 hc1_1
 have HR1_7 := aA hr1_7
 have HC1_7 := aA hc1_7
 clear hr1_7 hc1_7
 have HR1_10 := aA hr1_10
 have HC1_10 := aA hc1_10
 clear hr1_10 hc1_10
 have HB := aA (Below.refl w.heap.size w)
 have H : (if a0_0 = a1_0 then ((foghornref16_Same.f l0_1 a0_2 a0_3 a0_4 a0_5 a0_6 l1_1 a1_2 a1_3 a1_4 a1_5 a1_6).bind fun t399 => (if t399 = true then ((foghornref10_Same.f l0_7 l1_7).bind fun t400 => (if t400 = true then ((foghornref12_Hushes.f k a0_8 a0_9 l0_10 a1_8 a1_9 l1_10).bind fun t401 => (some t401)) else (some false))) else (some false))) else (some false)) = some r := h
 clear h
 by_cases c3 : a0_0 = a1_0
 ·rw [if_pos c3] at H
  have c3b0 : (a0_0 == a1_0) = true := beq_iff_eq.mpr c3
  have c3b1 : (a0_0 != a1_0) = false := bne_eq_false_iff_eq.mpr c3
  clear c3
  replace H := Option.bind_eq_some_iff.mp H
  obtain ⟨t399, A40, H⟩ := H
  have A4 := aA A40
  clear A40
  by_cases c5 : t399 = true
  ·subst c5
   have H1 : ((foghornref10_Same.f l0_7 l1_7).bind fun t400 => (if t400 = true then ((foghornref12_Hushes.f k a0_8 a0_9 l0_10 a1_8 a1_9 l1_10).bind fun t401 => (some t401)) else (some false))) = some r := by rw [if_pos rfl] at H; exact H
   clear H
   have H := H1
   clear H1
   replace H := Option.bind_eq_some_iff.mp H
   obtain ⟨t400, A60, H⟩ := H
   have A6 := aA A60
   clear A60
   by_cases c7 : t400 = true
   ·subst c7
    have H1 : ((foghornref12_Hushes.f k a0_8 a0_9 l0_10 a1_8 a1_9 l1_10).bind fun t401 => (some t401)) = some r := by rw [if_pos rfl] at H; exact H
    clear H
    have H := H1
    clear H1
    replace H := Option.bind_eq_some_iff.mp H
    obtain ⟨t401, A80, H⟩ := H
    have A8 := aA A80
    clear A80
    obtain rfl := Option.some.inj H
    go_enter Try.func32, Try.ntmps32
    go_wp2_with (first | ((with_reducible refine gate_dst (N := 2) rfl ?_); refine box_event ?hg (N := 2) ?hd (cs := #[.int .i64 a0_0, .slice A0_1 l0_1.length c0_1, .int .i64 a0_2, .int .i64 a0_3, .int .i64 a0_4, .int .i64 a0_5, .int .i64 a0_6, .slice A0_7 l0_7.length c0_7, .int .i64 a0_8, .int .i64 a0_9, .slice A0_10 l0_10.length c0_10]) (t := 50) ?hr ?_; (case hd => rfl); (case hg => rfl); (case hr => first | (go_simp; done) | (go_simp; rfl)); intro gb397 hg w9 hbox hb; have n0_ := aA (below_step mB hb); have n1_ := aA (hbox); have n2_ := aA ((bZ hg mB)); have n3_ := aA ((bZ hg mB)); clear HB; have HB := n0_; have BK397 := n1_; have GW397 := n2_; have GE397 := n3_; clear n0_ n1_ n2_ n3_ hb hbox hg) | ((with_reducible refine gate_dst (N := 3) rfl ?_); refine box_event ?hg (N := 3) ?hd (cs := #[.int .i64 a1_0, .slice A1_1 l1_1.length c1_1, .int .i64 a1_2, .int .i64 a1_3, .int .i64 a1_4, .int .i64 a1_5, .int .i64 a1_6, .slice A1_7 l1_7.length c1_7, .int .i64 a1_8, .int .i64 a1_9, .slice A1_10 l1_10.length c1_10]) (t := 50) ?hr ?_; (case hd => rfl); (case hg => rfl); (case hr => first | (go_simp; done) | (go_simp; rfl)); intro gb398 hg w10 hbox hb; have n0_ := aA (bB BK397.out hb); have n1_ := aA (below_step (mD1 GE397.out) hb); have n2_ := aA (hbox); have n3_ := aA ((bZ hg (mD1 GE397.out))); have n4_ := aA ((bZ hg (mD1 GE397.out))); have n5_ := aA ((bL hg BK397.out)); have n6_ := aA ((bG hg BK397.out)); clear BK397 HB; have BK397 := n0_; have HB := n1_; have BK398 := n2_; have GW398 := n3_; have GE398 := n4_; have NB397_398 := n5_; have NB398_397 := n6_; clear n0_ n1_ n2_ n3_ n4_ n5_ n6_ hb hbox hg; have hnb11 := NB397_398.out; have hnc11 := NB398_397.out; obtain ⟨hcz12_0, hcz12_1, hcz12_2, hcz12_3, hcz12_4, hcz12_5, hcz12_6, hcz12_7, hcz12_8, hcz12_9, hcz12_10⟩ := bC11 BK397.out; obtain ⟨hfz12_0, hfz12_1, hfz12_2, hfz12_3, hfz12_4, hfz12_5, hfz12_6, hfz12_7, hfz12_8, hfz12_9, hfz12_10⟩ := bF11 BK397.out; obtain ⟨hcz13_0, hcz13_1, hcz13_2, hcz13_3, hcz13_4, hcz13_5, hcz13_6, hcz13_7, hcz13_8, hcz13_9, hcz13_10⟩ := bC11 BK398.out; obtain ⟨hfz13_0, hfz13_1, hfz13_2, hfz13_3, hfz13_4, hfz13_5, hfz13_6, hfz13_7, hfz13_8, hfz13_9, hfz13_10⟩ := bF11 BK398.out) | (go_at_call 53; (with_reducible refine (foghornref16_Same.calls _ _ l0_1 a0_2 a0_3 a0_4 a0_5 a0_6 _ _ l1_1 a1_2 a1_3 a1_4 a1_5 a1_6 true _ ?side1 ?side2 ?side3 ?side4 A4.out).mono ?_); (case side1 => exact mC ((Kd.C_below HR0_1.out HB.out))); (case side2 => exact HC0_1.out); (case side3 => exact mC ((Kd.C_below HR1_1.out HB.out))); (case side4 => exact HC1_1.out); rintro e w14 ⟨rfl, hb⟩; have n0_ := aA (bB BK397.out hb); have n1_ := aA (bB BK398.out hb); have n2_ := aA (below_step (mD2 GE397.out GE398.out) hb); clear BK397 BK398 HB; have BK397 := n0_; have BK398 := n1_; have HB := n2_; clear n0_ n1_ n2_; (try clear hb); (try clear hb2); (try clear hk); (try clear hi); obtain ⟨hcz15_0, hcz15_1, hcz15_2, hcz15_3, hcz15_4, hcz15_5, hcz15_6, hcz15_7, hcz15_8, hcz15_9, hcz15_10⟩ := bC11 BK397.out; obtain ⟨hfz15_0, hfz15_1, hfz15_2, hfz15_3, hfz15_4, hfz15_5, hfz15_6, hfz15_7, hfz15_8, hfz15_9, hfz15_10⟩ := bF11 BK397.out; obtain ⟨hcz16_0, hcz16_1, hcz16_2, hcz16_3, hcz16_4, hcz16_5, hcz16_6, hcz16_7, hcz16_8, hcz16_9, hcz16_10⟩ := bC11 BK398.out; obtain ⟨hfz16_0, hfz16_1, hfz16_2, hfz16_3, hfz16_4, hfz16_5, hfz16_6, hfz16_7, hfz16_8, hfz16_9, hfz16_10⟩ := bF11 BK398.out) | (go_at_call 17; (with_reducible refine (foghornref10_Same.calls _ _ l0_7 _ _ l1_7 true _ ?side1 ?side2 ?side3 ?side4 A6.out).mono ?_); (case side1 => exact mC ((Kd.C_below HR0_7.out HB.out))); (case side2 => exact HC0_7.out); (case side3 => exact mC ((Kd.C_below HR1_7.out HB.out))); (case side4 => exact HC1_7.out); rintro e w17 ⟨rfl, hb⟩; have n0_ := aA (bB BK397.out hb); have n1_ := aA (bB BK398.out hb); have n2_ := aA (below_step (mD2 GE397.out GE398.out) hb); clear BK397 BK398 HB; have BK397 := n0_; have BK398 := n1_; have HB := n2_; clear n0_ n1_ n2_; (try clear hb); (try clear hb2); (try clear hk); (try clear hi); obtain ⟨hcz18_0, hcz18_1, hcz18_2, hcz18_3, hcz18_4, hcz18_5, hcz18_6, hcz18_7, hcz18_8, hcz18_9, hcz18_10⟩ := bC11 BK397.out; obtain ⟨hfz18_0, hfz18_1, hfz18_2, hfz18_3, hfz18_4, hfz18_5, hfz18_6, hfz18_7, hfz18_8, hfz18_9, hfz18_10⟩ := bF11 BK397.out; obtain ⟨hcz19_0, hcz19_1, hcz19_2, hcz19_3, hcz19_4, hcz19_5, hcz19_6, hcz19_7, hcz19_8, hcz19_9, hcz19_10⟩ := bC11 BK398.out; obtain ⟨hfz19_0, hfz19_1, hfz19_2, hfz19_3, hfz19_4, hfz19_5, hfz19_6, hfz19_7, hfz19_8, hfz19_9, hfz19_10⟩ := bF11 BK398.out) | (go_at_call 54; (with_reducible refine (foghornref12_Hushes.calls k a0_8 a0_9 _ _ l0_10 a1_8 a1_9 _ _ l1_10 t401 _ ?side1 ?side2 ?side3 ?side4 A8.out).mono ?_); (case side1 => exact mC ((Kd.C_below HR0_10.out HB.out))); (case side2 => exact HC0_10.out); (case side3 => exact mC ((Kd.C_below HR1_10.out HB.out))); (case side4 => exact HC1_10.out); rintro e w20 ⟨rfl, hb⟩; have n0_ := aA (bB BK397.out hb); have n1_ := aA (bB BK398.out hb); have n2_ := aA (below_step (mD2 GE397.out GE398.out) hb); clear BK397 BK398 HB; have BK397 := n0_; have BK398 := n1_; have HB := n2_; clear n0_ n1_ n2_; (try clear hb); (try clear hb2); (try clear hk); (try clear hi)))
    go_ret
    exact ⟨by first | rfl | (simp [errW_none, errW_some] <;> rfl) | (simp [*, errW_none, errW_some] <;> rfl), by repeat (first | (with_reducible first | exact HB.out | apply below_alloc | apply pw_below_drewN | apply below_drew1 | refine below_set ?_ GE397.out | refine below_set ?_ GE398.out) | exact HB.out)⟩
   ·replace c7 := Bool.eq_false_iff.mpr c7
    subst c7
    have H1 : (some false) = some r := by rw [if_neg (show ¬ (false = true) by decide)] at H; exact H
    clear H
    have H := H1
    clear H1
    obtain rfl := Option.some.inj H
    go_enter Try.func32, Try.ntmps32
    go_wp2_with (first | ((with_reducible refine gate_dst (N := 2) rfl ?_); refine box_event ?hg (N := 2) ?hd (cs := #[.int .i64 a0_0, .slice A0_1 l0_1.length c0_1, .int .i64 a0_2, .int .i64 a0_3, .int .i64 a0_4, .int .i64 a0_5, .int .i64 a0_6, .slice A0_7 l0_7.length c0_7, .int .i64 a0_8, .int .i64 a0_9, .slice A0_10 l0_10.length c0_10]) (t := 50) ?hr ?_; (case hd => rfl); (case hg => rfl); (case hr => first | (go_simp; done) | (go_simp; rfl)); intro gb397 hg w21 hbox hb; have n0_ := aA (below_step mB hb); have n1_ := aA (hbox); have n2_ := aA ((bZ hg mB)); have n3_ := aA ((bZ hg mB)); clear HB; have HB := n0_; have BK397 := n1_; have GW397 := n2_; have GE397 := n3_; clear n0_ n1_ n2_ n3_ hb hbox hg) | ((with_reducible refine gate_dst (N := 3) rfl ?_); refine box_event ?hg (N := 3) ?hd (cs := #[.int .i64 a1_0, .slice A1_1 l1_1.length c1_1, .int .i64 a1_2, .int .i64 a1_3, .int .i64 a1_4, .int .i64 a1_5, .int .i64 a1_6, .slice A1_7 l1_7.length c1_7, .int .i64 a1_8, .int .i64 a1_9, .slice A1_10 l1_10.length c1_10]) (t := 50) ?hr ?_; (case hd => rfl); (case hg => rfl); (case hr => first | (go_simp; done) | (go_simp; rfl)); intro gb398 hg w22 hbox hb; have n0_ := aA (bB BK397.out hb); have n1_ := aA (below_step (mD1 GE397.out) hb); have n2_ := aA (hbox); have n3_ := aA ((bZ hg (mD1 GE397.out))); have n4_ := aA ((bZ hg (mD1 GE397.out))); have n5_ := aA ((bL hg BK397.out)); have n6_ := aA ((bG hg BK397.out)); clear BK397 HB; have BK397 := n0_; have HB := n1_; have BK398 := n2_; have GW398 := n3_; have GE398 := n4_; have NB397_398 := n5_; have NB398_397 := n6_; clear n0_ n1_ n2_ n3_ n4_ n5_ n6_ hb hbox hg; have hnb23 := NB397_398.out; have hnc23 := NB398_397.out; obtain ⟨hcz24_0, hcz24_1, hcz24_2, hcz24_3, hcz24_4, hcz24_5, hcz24_6, hcz24_7, hcz24_8, hcz24_9, hcz24_10⟩ := bC11 BK397.out; obtain ⟨hfz24_0, hfz24_1, hfz24_2, hfz24_3, hfz24_4, hfz24_5, hfz24_6, hfz24_7, hfz24_8, hfz24_9, hfz24_10⟩ := bF11 BK397.out; obtain ⟨hcz25_0, hcz25_1, hcz25_2, hcz25_3, hcz25_4, hcz25_5, hcz25_6, hcz25_7, hcz25_8, hcz25_9, hcz25_10⟩ := bC11 BK398.out; obtain ⟨hfz25_0, hfz25_1, hfz25_2, hfz25_3, hfz25_4, hfz25_5, hfz25_6, hfz25_7, hfz25_8, hfz25_9, hfz25_10⟩ := bF11 BK398.out) | (go_at_call 53; (with_reducible refine (foghornref16_Same.calls _ _ l0_1 a0_2 a0_3 a0_4 a0_5 a0_6 _ _ l1_1 a1_2 a1_3 a1_4 a1_5 a1_6 true _ ?side1 ?side2 ?side3 ?side4 A4.out).mono ?_); (case side1 => exact mC ((Kd.C_below HR0_1.out HB.out))); (case side2 => exact HC0_1.out); (case side3 => exact mC ((Kd.C_below HR1_1.out HB.out))); (case side4 => exact HC1_1.out); rintro e w26 ⟨rfl, hb⟩; have n0_ := aA (bB BK397.out hb); have n1_ := aA (bB BK398.out hb); have n2_ := aA (below_step (mD2 GE397.out GE398.out) hb); clear BK397 BK398 HB; have BK397 := n0_; have BK398 := n1_; have HB := n2_; clear n0_ n1_ n2_; (try clear hb); (try clear hb2); (try clear hk); (try clear hi); obtain ⟨hcz27_0, hcz27_1, hcz27_2, hcz27_3, hcz27_4, hcz27_5, hcz27_6, hcz27_7, hcz27_8, hcz27_9, hcz27_10⟩ := bC11 BK397.out; obtain ⟨hfz27_0, hfz27_1, hfz27_2, hfz27_3, hfz27_4, hfz27_5, hfz27_6, hfz27_7, hfz27_8, hfz27_9, hfz27_10⟩ := bF11 BK397.out; obtain ⟨hcz28_0, hcz28_1, hcz28_2, hcz28_3, hcz28_4, hcz28_5, hcz28_6, hcz28_7, hcz28_8, hcz28_9, hcz28_10⟩ := bC11 BK398.out; obtain ⟨hfz28_0, hfz28_1, hfz28_2, hfz28_3, hfz28_4, hfz28_5, hfz28_6, hfz28_7, hfz28_8, hfz28_9, hfz28_10⟩ := bF11 BK398.out) | (go_at_call 17; (with_reducible refine (foghornref10_Same.calls _ _ l0_7 _ _ l1_7 false _ ?side1 ?side2 ?side3 ?side4 A6.out).mono ?_); (case side1 => exact mC ((Kd.C_below HR0_7.out HB.out))); (case side2 => exact HC0_7.out); (case side3 => exact mC ((Kd.C_below HR1_7.out HB.out))); (case side4 => exact HC1_7.out); rintro e w29 ⟨rfl, hb⟩; have n0_ := aA (bB BK397.out hb); have n1_ := aA (bB BK398.out hb); have n2_ := aA (below_step (mD2 GE397.out GE398.out) hb); clear BK397 BK398 HB; have BK397 := n0_; have BK398 := n1_; have HB := n2_; clear n0_ n1_ n2_; (try clear hb); (try clear hb2); (try clear hk); (try clear hi)))
    go_ret
    exact ⟨by first | rfl | (simp [errW_none, errW_some] <;> rfl) | (simp [*, errW_none, errW_some] <;> rfl), by repeat (first | (with_reducible first | exact HB.out | apply below_alloc | apply pw_below_drewN | apply below_drew1 | refine below_set ?_ GE397.out | refine below_set ?_ GE398.out) | exact HB.out)⟩
  ·replace c5 := Bool.eq_false_iff.mpr c5
   subst c5
   have H1 : (some false) = some r := by rw [if_neg (show ¬ (false = true) by decide)] at H; exact H
   clear H
   have H := H1
   clear H1
   obtain rfl := Option.some.inj H
   go_enter Try.func32, Try.ntmps32
   go_wp2_with (first | ((with_reducible refine gate_dst (N := 2) rfl ?_); refine box_event ?hg (N := 2) ?hd (cs := #[.int .i64 a0_0, .slice A0_1 l0_1.length c0_1, .int .i64 a0_2, .int .i64 a0_3, .int .i64 a0_4, .int .i64 a0_5, .int .i64 a0_6, .slice A0_7 l0_7.length c0_7, .int .i64 a0_8, .int .i64 a0_9, .slice A0_10 l0_10.length c0_10]) (t := 50) ?hr ?_; (case hd => rfl); (case hg => rfl); (case hr => first | (go_simp; done) | (go_simp; rfl)); intro gb397 hg w30 hbox hb; have n0_ := aA (below_step mB hb); have n1_ := aA (hbox); have n2_ := aA ((bZ hg mB)); have n3_ := aA ((bZ hg mB)); clear HB; have HB := n0_; have BK397 := n1_; have GW397 := n2_; have GE397 := n3_; clear n0_ n1_ n2_ n3_ hb hbox hg) | ((with_reducible refine gate_dst (N := 3) rfl ?_); refine box_event ?hg (N := 3) ?hd (cs := #[.int .i64 a1_0, .slice A1_1 l1_1.length c1_1, .int .i64 a1_2, .int .i64 a1_3, .int .i64 a1_4, .int .i64 a1_5, .int .i64 a1_6, .slice A1_7 l1_7.length c1_7, .int .i64 a1_8, .int .i64 a1_9, .slice A1_10 l1_10.length c1_10]) (t := 50) ?hr ?_; (case hd => rfl); (case hg => rfl); (case hr => first | (go_simp; done) | (go_simp; rfl)); intro gb398 hg w31 hbox hb; have n0_ := aA (bB BK397.out hb); have n1_ := aA (below_step (mD1 GE397.out) hb); have n2_ := aA (hbox); have n3_ := aA ((bZ hg (mD1 GE397.out))); have n4_ := aA ((bZ hg (mD1 GE397.out))); have n5_ := aA ((bL hg BK397.out)); have n6_ := aA ((bG hg BK397.out)); clear BK397 HB; have BK397 := n0_; have HB := n1_; have BK398 := n2_; have GW398 := n3_; have GE398 := n4_; have NB397_398 := n5_; have NB398_397 := n6_; clear n0_ n1_ n2_ n3_ n4_ n5_ n6_ hb hbox hg; have hnb32 := NB397_398.out; have hnc32 := NB398_397.out; obtain ⟨hcz33_0, hcz33_1, hcz33_2, hcz33_3, hcz33_4, hcz33_5, hcz33_6, hcz33_7, hcz33_8, hcz33_9, hcz33_10⟩ := bC11 BK397.out; obtain ⟨hfz33_0, hfz33_1, hfz33_2, hfz33_3, hfz33_4, hfz33_5, hfz33_6, hfz33_7, hfz33_8, hfz33_9, hfz33_10⟩ := bF11 BK397.out; obtain ⟨hcz34_0, hcz34_1, hcz34_2, hcz34_3, hcz34_4, hcz34_5, hcz34_6, hcz34_7, hcz34_8, hcz34_9, hcz34_10⟩ := bC11 BK398.out; obtain ⟨hfz34_0, hfz34_1, hfz34_2, hfz34_3, hfz34_4, hfz34_5, hfz34_6, hfz34_7, hfz34_8, hfz34_9, hfz34_10⟩ := bF11 BK398.out) | (go_at_call 53; (with_reducible refine (foghornref16_Same.calls _ _ l0_1 a0_2 a0_3 a0_4 a0_5 a0_6 _ _ l1_1 a1_2 a1_3 a1_4 a1_5 a1_6 false _ ?side1 ?side2 ?side3 ?side4 A4.out).mono ?_); (case side1 => exact mC ((Kd.C_below HR0_1.out HB.out))); (case side2 => exact HC0_1.out); (case side3 => exact mC ((Kd.C_below HR1_1.out HB.out))); (case side4 => exact HC1_1.out); rintro e w35 ⟨rfl, hb⟩; have n0_ := aA (bB BK397.out hb); have n1_ := aA (bB BK398.out hb); have n2_ := aA (below_step (mD2 GE397.out GE398.out) hb); clear BK397 BK398 HB; have BK397 := n0_; have BK398 := n1_; have HB := n2_; clear n0_ n1_ n2_; (try clear hb); (try clear hb2); (try clear hk); (try clear hi)))
   go_ret
   exact ⟨by first | rfl | (simp [errW_none, errW_some] <;> rfl) | (simp [*, errW_none, errW_some] <;> rfl), by repeat (first | (with_reducible first | exact HB.out | apply below_alloc | apply pw_below_drewN | apply below_drew1 | refine below_set ?_ GE397.out | refine below_set ?_ GE398.out) | exact HB.out)⟩
 ·rw [if_neg c3] at H
  have c3b0 : (a0_0 == a1_0) = false := beq_eq_false_iff_ne.mpr c3
  have c3b1 : (a0_0 != a1_0) = true := bne_iff_ne.mpr c3
  obtain rfl := Option.some.inj H
  go_enter Try.func32, Try.ntmps32
  go_wp2_with (first | ((with_reducible refine gate_dst (N := 2) rfl ?_); refine box_event ?hg (N := 2) ?hd (cs := #[.int .i64 a0_0, .slice A0_1 l0_1.length c0_1, .int .i64 a0_2, .int .i64 a0_3, .int .i64 a0_4, .int .i64 a0_5, .int .i64 a0_6, .slice A0_7 l0_7.length c0_7, .int .i64 a0_8, .int .i64 a0_9, .slice A0_10 l0_10.length c0_10]) (t := 50) ?hr ?_; (case hd => rfl); (case hg => rfl); (case hr => first | (go_simp; done) | (go_simp; rfl)); intro gb397 hg w36 hbox hb; have n0_ := aA (below_step mB hb); have n1_ := aA (hbox); have n2_ := aA ((bZ hg mB)); have n3_ := aA ((bZ hg mB)); clear HB; have HB := n0_; have BK397 := n1_; have GW397 := n2_; have GE397 := n3_; clear n0_ n1_ n2_ n3_ hb hbox hg) | ((with_reducible refine gate_dst (N := 3) rfl ?_); refine box_event ?hg (N := 3) ?hd (cs := #[.int .i64 a1_0, .slice A1_1 l1_1.length c1_1, .int .i64 a1_2, .int .i64 a1_3, .int .i64 a1_4, .int .i64 a1_5, .int .i64 a1_6, .slice A1_7 l1_7.length c1_7, .int .i64 a1_8, .int .i64 a1_9, .slice A1_10 l1_10.length c1_10]) (t := 50) ?hr ?_; (case hd => rfl); (case hg => rfl); (case hr => first | (go_simp; done) | (go_simp; rfl)); intro gb398 hg w37 hbox hb; have n0_ := aA (bB BK397.out hb); have n1_ := aA (below_step (mD1 GE397.out) hb); have n2_ := aA (hbox); have n3_ := aA ((bZ hg (mD1 GE397.out))); have n4_ := aA ((bZ hg (mD1 GE397.out))); have n5_ := aA ((bL hg BK397.out)); have n6_ := aA ((bG hg BK397.out)); clear BK397 HB; have BK397 := n0_; have HB := n1_; have BK398 := n2_; have GW398 := n3_; have GE398 := n4_; have NB397_398 := n5_; have NB398_397 := n6_; clear n0_ n1_ n2_ n3_ n4_ n5_ n6_ hb hbox hg; have hnb38 := NB397_398.out; have hnc38 := NB398_397.out; obtain ⟨hcz39_0, hcz39_1, hcz39_2, hcz39_3, hcz39_4, hcz39_5, hcz39_6, hcz39_7, hcz39_8, hcz39_9, hcz39_10⟩ := bC11 BK397.out; obtain ⟨hfz39_0, hfz39_1, hfz39_2, hfz39_3, hfz39_4, hfz39_5, hfz39_6, hfz39_7, hfz39_8, hfz39_9, hfz39_10⟩ := bF11 BK397.out; obtain ⟨hcz40_0, hcz40_1, hcz40_2, hcz40_3, hcz40_4, hcz40_5, hcz40_6, hcz40_7, hcz40_8, hcz40_9, hcz40_10⟩ := bC11 BK398.out; obtain ⟨hfz40_0, hfz40_1, hfz40_2, hfz40_3, hfz40_4, hfz40_5, hfz40_6, hfz40_7, hfz40_8, hfz40_9, hfz40_10⟩ := bF11 BK398.out))
  go_ret
  exact ⟨by first | rfl | (simp [errW_none, errW_some] <;> rfl) | (simp [*, errW_none, errW_some] <;> rfl), by repeat (first | (with_reducible first | exact HB.out | apply below_alloc | apply pw_below_drewN | apply below_drew1 | refine below_set ?_ GE397.out | refine below_set ?_ GE398.out) | exact HB.out)⟩
end Go.Proofs.YtndgollcganhmaaQ.P
namespace Go.Proofs.YtndgollcganhmaaQ.P
open Go.RowKit Go.Proofs.YtndgollcganhmaaW.PrintWords Go.Proofs.YtndgollcganhmaaW.PrintLast Go.Proofs.YtndgollcganhmaaW.PrintMore
attribute [local go_sem] max2_int min2_int max_two min_two max_three min_three max_four min_four
def foghornlaw17_CodeGets.f (k : Nat) (a0 : ByteArray) : Option (Bool) := if 0 ≤ (mn (a0.size : Int) 130) then (if (mn (a0.size : Int) 130) ≤ (a0.size : Int) then ((code_Get.f (a0.extract 0 ((mn (a0.size : Int) 130) : Int).toNat)).bind fun bt402 => ((foghornref17_Get.f k (a0.extract 0 ((mn (a0.size : Int) 130) : Int).toNat)).bind fun bt421 => (if bt421.2.2.2.2.2.2.2.2.2.2.2 = true then ((foghornlaw17_alive.f).bind fun t440 => (if t440 = true then (if bt402.2.2.2.2.2.2.2.2.2.2.2 = 0 then ((foghornref17_Same.f k bt402.1 bt402.2.1 bt402.2.2.1 bt402.2.2.2.1 bt402.2.2.2.2.1 bt402.2.2.2.2.2.1 bt402.2.2.2.2.2.2.1 bt402.2.2.2.2.2.2.2.1 bt402.2.2.2.2.2.2.2.2.1 bt402.2.2.2.2.2.2.2.2.2.1 bt402.2.2.2.2.2.2.2.2.2.2.1 bt421.1 bt421.2.1 bt421.2.2.1 bt421.2.2.2.1 bt421.2.2.2.2.1 bt421.2.2.2.2.2.1 bt421.2.2.2.2.2.2.1 bt421.2.2.2.2.2.2.2.1 bt421.2.2.2.2.2.2.2.2.1 bt421.2.2.2.2.2.2.2.2.2.1 bt421.2.2.2.2.2.2.2.2.2.2.1).bind fun t441 => (some t441)) else (some false)) else (some false))) else ((foghornlaw17_alive.f).bind fun t442 => (if t442 = true then (if bt402.2.2.2.2.2.2.2.2.2.2.2 = 13 then ((foghornref17_Same.f k bt402.1 bt402.2.1 bt402.2.2.1 bt402.2.2.2.1 bt402.2.2.2.2.1 bt402.2.2.2.2.2.1 bt402.2.2.2.2.2.2.1 bt402.2.2.2.2.2.2.2.1 bt402.2.2.2.2.2.2.2.2.1 bt402.2.2.2.2.2.2.2.2.2.1 bt402.2.2.2.2.2.2.2.2.2.2.1 0 ([] : List (S41)) 0 0 0 0 0 ([] : List (S41)) 0 0 ([] : List (S35))).bind fun t443 => (some t443)) else (some false)) else (some false)))))) else (none)) else (none)
set_option maxHeartbeats 8000000 in
set_option maxRecDepth 100000 in
theorem foghornlaw17_CodeGets.calls (k : Nat) (a0 : ByteArray) (r : Bool) (w : World) (h : foghornlaw17_CodeGets.f k a0 = some r) :
  Calls Try.prog 7 #[.string a0] w fun e w' => e = .returned (.bool r) ∧ Below w.heap.size w w' := by
 have hu50 := Try.underlying50
 have HB := aA (Below.refl w.heap.size w)
 have H : (if 0 ≤ (mn (a0.size : Int) 130) then (if (mn (a0.size : Int) 130) ≤ (a0.size : Int) then ((code_Get.f (a0.extract 0 ((mn (a0.size : Int) 130) : Int).toNat)).bind fun bt402 => ((foghornref17_Get.f k (a0.extract 0 ((mn (a0.size : Int) 130) : Int).toNat)).bind fun bt421 => (if bt421.2.2.2.2.2.2.2.2.2.2.2 = true then ((foghornlaw17_alive.f).bind fun t440 => (if t440 = true then (if bt402.2.2.2.2.2.2.2.2.2.2.2 = 0 then ((foghornref17_Same.f k bt402.1 bt402.2.1 bt402.2.2.1 bt402.2.2.2.1 bt402.2.2.2.2.1 bt402.2.2.2.2.2.1 bt402.2.2.2.2.2.2.1 bt402.2.2.2.2.2.2.2.1 bt402.2.2.2.2.2.2.2.2.1 bt402.2.2.2.2.2.2.2.2.2.1 bt402.2.2.2.2.2.2.2.2.2.2.1 bt421.1 bt421.2.1 bt421.2.2.1 bt421.2.2.2.1 bt421.2.2.2.2.1 bt421.2.2.2.2.2.1 bt421.2.2.2.2.2.2.1 bt421.2.2.2.2.2.2.2.1 bt421.2.2.2.2.2.2.2.2.1 bt421.2.2.2.2.2.2.2.2.2.1 bt421.2.2.2.2.2.2.2.2.2.2.1).bind fun t441 => (some t441)) else (some false)) else (some false))) else ((foghornlaw17_alive.f).bind fun t442 => (if t442 = true then (if bt402.2.2.2.2.2.2.2.2.2.2.2 = 13 then ((foghornref17_Same.f k bt402.1 bt402.2.1 bt402.2.2.1 bt402.2.2.2.1 bt402.2.2.2.2.1 bt402.2.2.2.2.2.1 bt402.2.2.2.2.2.2.1 bt402.2.2.2.2.2.2.2.1 bt402.2.2.2.2.2.2.2.2.1 bt402.2.2.2.2.2.2.2.2.2.1 bt402.2.2.2.2.2.2.2.2.2.2.1 0 ([] : List (S41)) 0 0 0 0 0 ([] : List (S41)) 0 0 ([] : List (S35))).bind fun t443 => (some t443)) else (some false)) else (some false)))))) else (none)) else (none)) = some r := h
 clear h
 obtain ⟨ji2, hji2⟩ : ∃ j_ : Int, (mn (a0.size : Int) 130) = j_ := ⟨_, rfl⟩
 replace H : (if 0 ≤ (ji2) then (if (ji2) ≤ (a0.size : Int) then ((code_Get.f (a0.extract 0 ((ji2) : Int).toNat)).bind fun bt402 => ((foghornref17_Get.f k (a0.extract 0 ((ji2) : Int).toNat)).bind fun bt421 => (if bt421.2.2.2.2.2.2.2.2.2.2.2 = true then ((foghornlaw17_alive.f).bind fun t440 => (if t440 = true then (if bt402.2.2.2.2.2.2.2.2.2.2.2 = 0 then ((foghornref17_Same.f k bt402.1 bt402.2.1 bt402.2.2.1 bt402.2.2.2.1 bt402.2.2.2.2.1 bt402.2.2.2.2.2.1 bt402.2.2.2.2.2.2.1 bt402.2.2.2.2.2.2.2.1 bt402.2.2.2.2.2.2.2.2.1 bt402.2.2.2.2.2.2.2.2.2.1 bt402.2.2.2.2.2.2.2.2.2.2.1 bt421.1 bt421.2.1 bt421.2.2.1 bt421.2.2.2.1 bt421.2.2.2.2.1 bt421.2.2.2.2.2.1 bt421.2.2.2.2.2.2.1 bt421.2.2.2.2.2.2.2.1 bt421.2.2.2.2.2.2.2.2.1 bt421.2.2.2.2.2.2.2.2.2.1 bt421.2.2.2.2.2.2.2.2.2.2.1).bind fun t441 => (some t441)) else (some false)) else (some false))) else ((foghornlaw17_alive.f).bind fun t442 => (if t442 = true then (if bt402.2.2.2.2.2.2.2.2.2.2.2 = 13 then ((foghornref17_Same.f k bt402.1 bt402.2.1 bt402.2.2.1 bt402.2.2.2.1 bt402.2.2.2.2.1 bt402.2.2.2.2.2.1 bt402.2.2.2.2.2.2.1 bt402.2.2.2.2.2.2.2.1 bt402.2.2.2.2.2.2.2.2.1 bt402.2.2.2.2.2.2.2.2.2.1 bt402.2.2.2.2.2.2.2.2.2.2.1 0 ([] : List (S41)) 0 0 0 0 0 ([] : List (S41)) 0 0 ([] : List (S35))).bind fun t443 => (some t443)) else (some false)) else (some false)))))) else (none)) else (none)) = some r := by first | (rw [hji2] at H; exact H) | (simp only [hji2] at H ⊢; exact H)
 (try (have hji2h : ji2 ≤ 130 := by (rw [← hji2]; unfold mn; (repeat' split) <;> omega)))
 (try (have hji2g : ji2 ≤ 64 := by omega))
 (try (have hji2l : 0 ≤ ji2 := by (rw [← hji2]; unfold mn; (repeat' split) <;> omega)))
 (try (have hji2m : 0 ≤ ji2 := by omega))
 have hji2_ : (if 130 < (a0.size : Int) then 130 else (a0.size : Int)) = ji2 := hji2
 by_cases c3 : 0 ≤ (ji2)
 ·rw [if_pos c3] at H
  have c3b0 := eq_true c3
  have c3b1 := decide_eq_true c3
  clear c3
  by_cases c4 : (ji2) ≤ (a0.size : Int)
  ·rw [if_pos c4] at H
   have c4b0 := eq_true c4
   have c4b1 := decide_eq_true c4
   clear c4
   replace H := Option.bind_eq_some_iff.mp H
   obtain ⟨⟨t402, t403, t406, t407, t408, t409, t410, t411, t414, t415, t416, t419⟩, A50, H⟩ := H
   have A5 := aA A50
   clear A50
   replace H := Option.bind_eq_some_iff.mp H
   obtain ⟨⟨t421, t422, t425, t426, t427, t428, t429, t430, t433, t434, t435, t438⟩, A60, H⟩ := H
   have A6 := aA A60
   clear A60
   by_cases c7 : t438 = true
   ·subst c7
    have H1 : ((foghornlaw17_alive.f).bind fun t440 => (if t440 = true then (if t419 = 0 then ((foghornref17_Same.f k t402 t403 t406 t407 t408 t409 t410 t411 t414 t415 t416 t421 t422 t425 t426 t427 t428 t429 t430 t433 t434 t435).bind fun t441 => (some t441)) else (some false)) else (some false))) = some r := by rw [if_pos rfl] at H; exact H
    clear H
    have H := H1
    clear H1
    replace H := Option.bind_eq_some_iff.mp H
    obtain ⟨t440, A80, H⟩ := H
    have A8 := aA A80
    clear A80
    by_cases c9 : t440 = true
    ·subst c9
     have H1 : (if t419 = 0 then ((foghornref17_Same.f k t402 t403 t406 t407 t408 t409 t410 t411 t414 t415 t416 t421 t422 t425 t426 t427 t428 t429 t430 t433 t434 t435).bind fun t441 => (some t441)) else (some false)) = some r := by rw [if_pos rfl] at H; exact H
     clear H
     have H := H1
     clear H1
     by_cases c10 : t419 = 0
     ·rw [if_pos c10] at H
      have c10b0 : (t419 == 0) = true := beq_iff_eq.mpr c10
      have c10b1 : (t419 != 0) = false := bne_eq_false_iff_eq.mpr c10
      clear c10
      replace H := Option.bind_eq_some_iff.mp H
      obtain ⟨t441, A110, H⟩ := H
      have A11 := aA A110
      clear A110
      obtain rfl := Option.some.inj H
      go_enter Try.func7, Try.ntmps7
      go_wp2_with (first | ((with_reducible refine gate_callee (f := 30) rfl ?_); refine goesL_ (some 14) rfl rfl Try.func30 (by kernel_rfl) rfl #[.string (a0.extract 0 ((ji2) : Int).toNat)] rfl (by (try simp only [List.map_toArray, List.map_cons, List.map_nil]); first | done | (simp only [hji2]; rfl) | rfl | (simp only [List.length_drop, List.length_take]; rfl)) ?_; (with_reducible refine (code_Get.calls (a0.extract 0 ((ji2) : Int).toNat) t402 t403 t406 t407 t408 t409 t410 t411 t414 t415 t416 t419 _ A5.out).mono ?_); rintro e w12 ⟨v404, v412, v417, rfl, ho0, ho1, ho2, hb⟩; refine ⟨_, rfl, ?_⟩; have n0_ := aA (Kd.R_lower ho0 (below_size mB)); have n1_ := aA (Kd.R_lower ho1 (below_size mB)); have n2_ := aA (Kd.R_lower ho2 (below_size mB)); have n3_ := aA (below_step mB hb); clear HB; have HO405 := n0_; have HO413 := n1_; have HO418 := n2_; have HB := n3_; clear n0_ n1_ n2_ n3_; (try clear hb); (try clear hb2); (try clear hk); (try clear hi); (try clear ho0); (try clear ho1); (try clear ho2)) | ((with_reducible refine gate_dst (N := 3) rfl ?_); refine box_event ?hg (N := 3) ?hd (cs := #[.int .i64 0, .slice none 0 0, .int .i64 0, .int .i64 0, .int .i64 0, .int .i64 0, .int .i64 0, .slice none 0 0, .int .i64 0, .int .i64 0, .slice none 0 0]) (t := 50) ?hr ?_; (case hd => rfl); (case hg => rfl); (case hr => first | (go_simp; done) | (go_simp; rfl)); intro gb420 hg w13 hbox hb; have n0_ := aA (Kd.R_below (mR HO405.out) hb); have n1_ := aA (Kd.R_below (mR HO413.out) hb); have n2_ := aA (Kd.R_below (mR HO418.out) hb); have n3_ := aA (below_step mB hb); have n4_ := aA (hbox); have n5_ := aA ((bZ hg mB)); have n6_ := aA ((bZ hg mB)); clear HO405 HO413 HO418 HB; have HO405 := n0_; have HO413 := n1_; have HO418 := n2_; have HB := n3_; have BK420 := n4_; have GW420 := n5_; have GE420 := n6_; clear n0_ n1_ n2_ n3_ n4_ n5_ n6_ hb hbox hg; obtain ⟨hcz14_0, hcz14_1, hcz14_2, hcz14_3, hcz14_4, hcz14_5, hcz14_6, hcz14_7, hcz14_8, hcz14_9, hcz14_10⟩ := bC11 BK420.out; obtain ⟨hfz14_0, hfz14_1, hfz14_2, hfz14_3, hfz14_4, hfz14_5, hfz14_6, hfz14_7, hfz14_8, hfz14_9, hfz14_10⟩ := bF11 BK420.out; obtain ⟨Ao15, co15, eo15⟩ := Kd.R_slice HO405.out; subst eo15; obtain ⟨Ao16, co16, eo16⟩ := Kd.R_slice HO413.out; subst eo16; obtain ⟨Ao17, co17, eo17⟩ := Kd.R_slice HO418.out; subst eo17) | ((with_reducible refine gate_callee (f := 31) rfl ?_); refine goesL_ (some 19) rfl rfl Try.func31 (by kernel_rfl) rfl #[.string (a0.extract 0 ((ji2) : Int).toNat)] rfl (by (try simp only [List.map_toArray, List.map_cons, List.map_nil]); first | done | (simp only [hji2]; rfl) | rfl | (simp only [List.length_drop, List.length_take]; rfl)) ?_; (with_reducible refine (foghornref17_Get.calls k (a0.extract 0 ((ji2) : Int).toNat) t421 t422 t425 t426 t427 t428 t429 t430 t433 t434 t435 true _ A6.out).mono ?_); rintro e w18 ⟨v423, v431, v436, rfl, ho0, ho1, ho2, hb⟩; refine ⟨_, rfl, ?_⟩; have n0_ := aA (Kd.R_mono (Kd.R_told (Kd.R_told (Kd.R_old (by (with_reducible repeat (first | apply Kd.R_alloc | apply Kd.R_drewN | apply Kd.R_drew)); exact (Kd.R_mono (rF 10 (rF 9 (rF 8 (rF 7 (rF 6 (rF 5 (rF 4 (rF 3 (rF 2 (rF 1 (rF 0 (Kd.R_types HO405.out BK420.out (by decide))))))))))))) (fun _ h_ => h_.1))) hb) (Kd.R_base ho0)) (Kd.R_base ho1)) (fun _ h_ => h_.1)); have n1_ := aA (Kd.R_mono (Kd.R_told (Kd.R_told (Kd.R_old (by (with_reducible repeat (first | apply Kd.R_alloc | apply Kd.R_drewN | apply Kd.R_drew)); exact (Kd.R_mono (rF 10 (rF 9 (rF 8 (rF 7 (rF 6 (rF 5 (rF 4 (rF 3 (rF 2 (rF 1 (rF 0 (Kd.R_types HO413.out BK420.out (by decide))))))))))))) (fun _ h_ => h_.1))) hb) (Kd.R_base ho0)) (Kd.R_base ho1)) (fun _ h_ => h_.1)); have n2_ := aA (Kd.R_elder' (by (with_reducible repeat (first | apply Kd.R_alloc | apply Kd.R_drewN | apply Kd.R_drew)); exact (Kd.R_mono (rF 10 (rF 9 (rF 8 (rF 7 (rF 6 (rF 5 (rF 4 (rF 3 (rF 2 (rF 1 (rF 0 (Kd.R_types HO418.out BK420.out (by decide))))))))))))) (fun _ h_ => h_.1))) (Kd.R_base ho2) hb); have n3_ := aA (Kd.R_lower (Kd.R_new' (Kd.R_new' ho0 (Kd.R_lt (by (with_reducible repeat (first | apply Kd.R_alloc | apply Kd.R_drewN | apply Kd.R_drew)); exact (Kd.R_mono (rF 10 (rF 9 (rF 8 (rF 7 (rF 6 (rF 5 (rF 4 (rF 3 (rF 2 (rF 1 (rF 0 (Kd.R_types HO405.out BK420.out (by decide))))))))))))) (fun _ h_ => h_.1))))) (Kd.R_lt (by (with_reducible repeat (first | apply Kd.R_alloc | apply Kd.R_drewN | apply Kd.R_drew)); exact (Kd.R_mono (rF 10 (rF 9 (rF 8 (rF 7 (rF 6 (rF 5 (rF 4 (rF 3 (rF 2 (rF 1 (rF 0 (Kd.R_types HO413.out BK420.out (by decide))))))))))))) (fun _ h_ => h_.1))))) (below_size (mD1 GE420.out))); have n4_ := aA (Kd.R_lower (Kd.R_new' (Kd.R_new' ho1 (Kd.R_lt (by (with_reducible repeat (first | apply Kd.R_alloc | apply Kd.R_drewN | apply Kd.R_drew)); exact (Kd.R_mono (rF 10 (rF 9 (rF 8 (rF 7 (rF 6 (rF 5 (rF 4 (rF 3 (rF 2 (rF 1 (rF 0 (Kd.R_types HO405.out BK420.out (by decide))))))))))))) (fun _ h_ => h_.1))))) (Kd.R_lt (by (with_reducible repeat (first | apply Kd.R_alloc | apply Kd.R_drewN | apply Kd.R_drew)); exact (Kd.R_mono (rF 10 (rF 9 (rF 8 (rF 7 (rF 6 (rF 5 (rF 4 (rF 3 (rF 2 (rF 1 (rF 0 (Kd.R_types HO413.out BK420.out (by decide))))))))))))) (fun _ h_ => h_.1))))) (below_size (mD1 GE420.out))); have n5_ := aA (Kd.R_lower (Kd.R_new' ho2 (Kd.R_lt (by (with_reducible repeat (first | apply Kd.R_alloc | apply Kd.R_drewN | apply Kd.R_drew)); exact (Kd.R_mono (rF 10 (rF 9 (rF 8 (rF 7 (rF 6 (rF 5 (rF 4 (rF 3 (rF 2 (rF 1 (rF 0 (Kd.R_types HO418.out BK420.out (by decide))))))))))))) (fun _ h_ => h_.1))))) (below_size (mD1 GE420.out))); have n6_ := aA (blk_below (g := gb420) (o := .cells #[.int .i64 t402, .slice Ao15 t403.length co15, .int .i64 t406, .int .i64 t407, .int .i64 t408, .int .i64 t409, .int .i64 t410, .slice Ao16 t411.length co16, .int .i64 t414, .int .i64 t415, .slice Ao17 t416.length co17] 50 (0, 0)) (by (with_reducible repeat (first | refine blk_drewN ?_ _ | refine blk_drew ?_ | refine blk_alloc ?_ _)); have h_ := BK420.out; exact pK 10 (pK 9 (pK 8 (pK 7 (pK 6 (pK 5 (pK 4 (pK 3 (pK 2 (pK 1 (pK 0 (h_)))))))))))) hb); have n7_ := aA (below_step (mD1 GE420.out) hb); clear HO405 HO413 HO418 BK420 HB; have HO405 := n0_; have HO413 := n1_; have HO418 := n2_; have HO424 := n3_; have HO432 := n4_; have HO437 := n5_; have BK420 := n6_; have HB := n7_; clear n0_ n1_ n2_ n3_ n4_ n5_ n6_ n7_; (try clear hb); (try clear hb2); (try clear hk); (try clear hi); (try clear ho0); (try clear ho1); (try clear ho2)) | ((with_reducible refine gate_dst (N := 5) rfl ?_); refine box_event ?hg (N := 5) ?hd (cs := #[.int .i64 0, .slice none 0 0, .int .i64 0, .int .i64 0, .int .i64 0, .int .i64 0, .int .i64 0, .slice none 0 0, .int .i64 0, .int .i64 0, .slice none 0 0]) (t := 50) ?hr ?_; (case hd => rfl); (case hg => rfl); (case hr => first | (go_simp; done) | (go_simp; rfl)); intro gb439 hg w19 hbox hb; have n0_ := aA (Kd.R_below (mR HO405.out) hb); have n1_ := aA (Kd.R_below (mR HO413.out) hb); have n2_ := aA (Kd.R_below (mR HO418.out) hb); have n3_ := aA (Kd.R_below (mR HO424.out) hb); have n4_ := aA (Kd.R_below (mR HO432.out) hb); have n5_ := aA (Kd.R_below (mR HO437.out) hb); have n6_ := aA (bB BK420.out hb); have n7_ := aA (below_step (mD1 GE420.out) hb); have n8_ := aA (hbox); have n9_ := aA ((bZ hg (mD1 GE420.out))); have n10_ := aA ((bZ hg (mD1 GE420.out))); have n11_ := aA ((bL hg BK420.out)); have n12_ := aA ((bG hg BK420.out)); clear HO405 HO413 HO418 HO424 HO432 HO437 BK420 HB; have HO405 := n0_; have HO413 := n1_; have HO418 := n2_; have HO424 := n3_; have HO432 := n4_; have HO437 := n5_; have BK420 := n6_; have HB := n7_; have BK439 := n8_; have GW439 := n9_; have GE439 := n10_; have NB420_439 := n11_; have NB439_420 := n12_; clear n0_ n1_ n2_ n3_ n4_ n5_ n6_ n7_ n8_ n9_ n10_ n11_ n12_ hb hbox hg; have hnb20 := NB439_420.out; have hnc20 := NB420_439.out; obtain ⟨hcz21_0, hcz21_1, hcz21_2, hcz21_3, hcz21_4, hcz21_5, hcz21_6, hcz21_7, hcz21_8, hcz21_9, hcz21_10⟩ := bC11 BK439.out; obtain ⟨hfz21_0, hfz21_1, hfz21_2, hfz21_3, hfz21_4, hfz21_5, hfz21_6, hfz21_7, hfz21_8, hfz21_9, hfz21_10⟩ := bF11 BK439.out; obtain ⟨Ao22, co22, eo22⟩ := Kd.R_slice HO424.out; subst eo22; obtain ⟨Ao23, co23, eo23⟩ := Kd.R_slice HO432.out; subst eo23; obtain ⟨Ao24, co24, eo24⟩ := Kd.R_slice HO437.out; subst eo24) | ((with_reducible refine gate_callee (f := 28) rfl ?_); refine goesL_ (some 34) rfl rfl Try.func28 (by kernel_rfl) rfl #[] rfl mS ?_; (with_reducible refine (foghornlaw17_alive.calls  true _ A8.out).mono ?_); rintro e w25 ⟨rfl, hb⟩; refine ⟨_, rfl, ?_⟩; have n0_ := aA (Kd.R_below (by (with_reducible repeat (first | apply Kd.R_alloc | apply Kd.R_drewN | apply Kd.R_drew)); exact (Kd.R_mono (rF 10 (rF 9 (rF 8 (rF 7 (rF 6 (rF 5 (rF 4 (rF 3 (rF 2 (rF 1 (rF 0 (Kd.R_types HO405.out BK439.out (by decide))))))))))))) (fun _ h_ => h_.1))) hb); have n1_ := aA (Kd.R_below (by (with_reducible repeat (first | apply Kd.R_alloc | apply Kd.R_drewN | apply Kd.R_drew)); exact (Kd.R_mono (rF 10 (rF 9 (rF 8 (rF 7 (rF 6 (rF 5 (rF 4 (rF 3 (rF 2 (rF 1 (rF 0 (Kd.R_types HO413.out BK439.out (by decide))))))))))))) (fun _ h_ => h_.1))) hb); have n2_ := aA (Kd.R_below (by (with_reducible repeat (first | apply Kd.R_alloc | apply Kd.R_drewN | apply Kd.R_drew)); exact (Kd.R_mono (rF 10 (rF 9 (rF 8 (rF 7 (rF 6 (rF 5 (rF 4 (rF 3 (rF 2 (rF 1 (rF 0 (Kd.R_types HO418.out BK439.out (by decide))))))))))))) (fun _ h_ => h_.1))) hb); have n3_ := aA (Kd.R_below (by (with_reducible repeat (first | apply Kd.R_alloc | apply Kd.R_drewN | apply Kd.R_drew)); exact (Kd.R_mono (rF 10 (rF 9 (rF 8 (rF 7 (rF 6 (rF 5 (rF 4 (rF 3 (rF 2 (rF 1 (rF 0 (Kd.R_types HO424.out BK439.out (by decide))))))))))))) (fun _ h_ => h_.1))) hb); have n4_ := aA (Kd.R_below (by (with_reducible repeat (first | apply Kd.R_alloc | apply Kd.R_drewN | apply Kd.R_drew)); exact (Kd.R_mono (rF 10 (rF 9 (rF 8 (rF 7 (rF 6 (rF 5 (rF 4 (rF 3 (rF 2 (rF 1 (rF 0 (Kd.R_types HO432.out BK439.out (by decide))))))))))))) (fun _ h_ => h_.1))) hb); have n5_ := aA (Kd.R_below (by (with_reducible repeat (first | apply Kd.R_alloc | apply Kd.R_drewN | apply Kd.R_drew)); exact (Kd.R_mono (rF 10 (rF 9 (rF 8 (rF 7 (rF 6 (rF 5 (rF 4 (rF 3 (rF 2 (rF 1 (rF 0 (Kd.R_types HO437.out BK439.out (by decide))))))))))))) (fun _ h_ => h_.1))) hb); have n6_ := aA (blk_below (g := gb420) (o := .cells #[.int .i64 t402, .slice Ao15 t403.length co15, .int .i64 t406, .int .i64 t407, .int .i64 t408, .int .i64 t409, .int .i64 t410, .slice Ao16 t411.length co16, .int .i64 t414, .int .i64 t415, .slice Ao17 t416.length co17] 50 (0, 0)) (by (with_reducible repeat (first | refine blk_drewN ?_ _ | refine blk_drew ?_ | refine blk_alloc ?_ _)); refine blk_far ?_ NB420_439.out _; (with_reducible repeat (first | refine blk_drewN ?_ _ | refine blk_drew ?_ | refine blk_alloc ?_ _)); refine blk_far ?_ NB420_439.out _; (with_reducible repeat (first | refine blk_drewN ?_ _ | refine blk_drew ?_ | refine blk_alloc ?_ _)); refine blk_far ?_ NB420_439.out _; (with_reducible repeat (first | refine blk_drewN ?_ _ | refine blk_drew ?_ | refine blk_alloc ?_ _)); refine blk_far ?_ NB420_439.out _; (with_reducible repeat (first | refine blk_drewN ?_ _ | refine blk_drew ?_ | refine blk_alloc ?_ _)); refine blk_far ?_ NB420_439.out _; (with_reducible repeat (first | refine blk_drewN ?_ _ | refine blk_drew ?_ | refine blk_alloc ?_ _)); refine blk_far ?_ NB420_439.out _; (with_reducible repeat (first | refine blk_drewN ?_ _ | refine blk_drew ?_ | refine blk_alloc ?_ _)); refine blk_far ?_ NB420_439.out _; (with_reducible repeat (first | refine blk_drewN ?_ _ | refine blk_drew ?_ | refine blk_alloc ?_ _)); refine blk_far ?_ NB420_439.out _; (with_reducible repeat (first | refine blk_drewN ?_ _ | refine blk_drew ?_ | refine blk_alloc ?_ _)); refine blk_far ?_ NB420_439.out _; (with_reducible repeat (first | refine blk_drewN ?_ _ | refine blk_drew ?_ | refine blk_alloc ?_ _)); refine blk_far ?_ NB420_439.out _; (with_reducible repeat (first | refine blk_drewN ?_ _ | refine blk_drew ?_ | refine blk_alloc ?_ _)); refine blk_far ?_ NB420_439.out _; (with_reducible repeat (first | refine blk_drewN ?_ _ | refine blk_drew ?_ | refine blk_alloc ?_ _)); exact BK420.out) hb); have n7_ := aA (blk_below (g := gb439) (o := .cells #[.int .i64 t421, .slice Ao22 t422.length co22, .int .i64 t425, .int .i64 t426, .int .i64 t427, .int .i64 t428, .int .i64 t429, .slice Ao23 t430.length co23, .int .i64 t433, .int .i64 t434, .slice Ao24 t435.length co24] 50 (0, 0)) (by (with_reducible repeat (first | refine blk_drewN ?_ _ | refine blk_drew ?_ | refine blk_alloc ?_ _)); have h_ := BK439.out; exact pK 10 (pK 9 (pK 8 (pK 7 (pK 6 (pK 5 (pK 4 (pK 3 (pK 2 (pK 1 (pK 0 (h_)))))))))))) hb); have n8_ := aA (below_step (mD2 GE420.out GE439.out) hb); clear HO405 HO413 HO418 HO424 HO432 HO437 BK420 BK439 HB; have HO405 := n0_; have HO413 := n1_; have HO418 := n2_; have HO424 := n3_; have HO432 := n4_; have HO437 := n5_; have BK420 := n6_; have BK439 := n7_; have HB := n8_; clear n0_ n1_ n2_ n3_ n4_ n5_ n6_ n7_ n8_; (try clear hb); (try clear hb2); (try clear hk); (try clear hi); obtain ⟨hcz26_0, hcz26_1, hcz26_2, hcz26_3, hcz26_4, hcz26_5, hcz26_6, hcz26_7, hcz26_8, hcz26_9, hcz26_10⟩ := bC11 BK420.out; obtain ⟨hfz26_0, hfz26_1, hfz26_2, hfz26_3, hfz26_4, hfz26_5, hfz26_6, hfz26_7, hfz26_8, hfz26_9, hfz26_10⟩ := bF11 BK420.out; obtain ⟨hcz27_0, hcz27_1, hcz27_2, hcz27_3, hcz27_4, hcz27_5, hcz27_6, hcz27_7, hcz27_8, hcz27_9, hcz27_10⟩ := bC11 BK439.out; obtain ⟨hfz27_0, hfz27_1, hfz27_2, hfz27_3, hfz27_4, hfz27_5, hfz27_6, hfz27_7, hfz27_8, hfz27_9, hfz27_10⟩ := bF11 BK439.out) | (go_at_call 32; (with_reducible refine (foghornref17_Same.calls k t402 _ _ t403 t406 t407 t408 t409 t410 _ _ t411 t414 t415 _ _ t416 t421 _ _ t422 t425 t426 t427 t428 t429 _ _ t430 t433 t434 _ _ t435 t441 _ ?side1 ?side2 ?side3 ?side4 ?side5 ?side6 ?side7 ?side8 ?side9 ?side10 ?side11 ?side12 A11.out).mono ?_); (case side1 => exact mC ((Kd.R_reads' HO405.out).2.2)); (case side2 => exact (Kd.R_reads' HO405.out).2.1); (case side3 => exact mC ((Kd.R_reads' HO413.out).2.2)); (case side4 => exact (Kd.R_reads' HO413.out).2.1); (case side5 => exact mC ((Kd.R_reads' HO418.out).2.2)); (case side6 => exact (Kd.R_reads' HO418.out).2.1); (case side7 => exact mC ((Kd.R_reads' HO424.out).2.2)); (case side8 => exact (Kd.R_reads' HO424.out).2.1); (case side9 => exact mC ((Kd.R_reads' HO432.out).2.2)); (case side10 => exact (Kd.R_reads' HO432.out).2.1); (case side11 => exact mC ((Kd.R_reads' HO437.out).2.2)); (case side12 => exact (Kd.R_reads' HO437.out).2.1); rintro e w28 ⟨rfl, hb⟩; have n0_ := aA (Kd.R_below (mR HO405.out) hb); have n1_ := aA (Kd.R_below (mR HO413.out) hb); have n2_ := aA (Kd.R_below (mR HO418.out) hb); have n3_ := aA (Kd.R_below (mR HO424.out) hb); have n4_ := aA (Kd.R_below (mR HO432.out) hb); have n5_ := aA (Kd.R_below (mR HO437.out) hb); have n6_ := aA (bB BK420.out hb); have n7_ := aA (bB BK439.out hb); have n8_ := aA (below_step (mD2 GE420.out GE439.out) hb); clear HO405 HO413 HO418 HO424 HO432 HO437 BK420 BK439 HB; have HO405 := n0_; have HO413 := n1_; have HO418 := n2_; have HO424 := n3_; have HO432 := n4_; have HO437 := n5_; have BK420 := n6_; have BK439 := n7_; have HB := n8_; clear n0_ n1_ n2_ n3_ n4_ n5_ n6_ n7_ n8_; (try clear hb); (try clear hb2); (try clear hk); (try clear hi)))
      go_ret
      exact ⟨by first | rfl | (simp [errW_none, errW_some] <;> rfl) | (simp only [← hji2]; first | rfl | (simp [errW_none, errW_some] <;> rfl)) | (simp [*, errW_none, errW_some] <;> rfl), by repeat (first | (with_reducible first | exact HB.out | apply below_alloc | apply pw_below_drewN | apply below_drew1 | refine below_set ?_ GE420.out | refine below_set ?_ GE439.out) | exact HB.out)⟩
     ·rw [if_neg c10] at H
      have c10b0 : (t419 == 0) = false := beq_eq_false_iff_ne.mpr c10
      have c10b1 : (t419 != 0) = true := bne_iff_ne.mpr c10
      obtain rfl := Option.some.inj H
      go_enter Try.func7, Try.ntmps7
      go_wp2_with (first | ((with_reducible refine gate_callee (f := 30) rfl ?_); refine goesL_ (some 14) rfl rfl Try.func30 (by kernel_rfl) rfl #[.string (a0.extract 0 ((ji2) : Int).toNat)] rfl (by (try simp only [List.map_toArray, List.map_cons, List.map_nil]); first | done | (simp only [hji2]; rfl) | rfl | (simp only [List.length_drop, List.length_take]; rfl)) ?_; (with_reducible refine (code_Get.calls (a0.extract 0 ((ji2) : Int).toNat) t402 t403 t406 t407 t408 t409 t410 t411 t414 t415 t416 t419 _ A5.out).mono ?_); rintro e w29 ⟨v404, v412, v417, rfl, ho0, ho1, ho2, hb⟩; refine ⟨_, rfl, ?_⟩; have n0_ := aA (Kd.R_lower ho0 (below_size mB)); have n1_ := aA (Kd.R_lower ho1 (below_size mB)); have n2_ := aA (Kd.R_lower ho2 (below_size mB)); have n3_ := aA (below_step mB hb); clear HB; have HO405 := n0_; have HO413 := n1_; have HO418 := n2_; have HB := n3_; clear n0_ n1_ n2_ n3_; (try clear hb); (try clear hb2); (try clear hk); (try clear hi); (try clear ho0); (try clear ho1); (try clear ho2)) | ((with_reducible refine gate_dst (N := 3) rfl ?_); refine box_event ?hg (N := 3) ?hd (cs := #[.int .i64 0, .slice none 0 0, .int .i64 0, .int .i64 0, .int .i64 0, .int .i64 0, .int .i64 0, .slice none 0 0, .int .i64 0, .int .i64 0, .slice none 0 0]) (t := 50) ?hr ?_; (case hd => rfl); (case hg => rfl); (case hr => first | (go_simp; done) | (go_simp; rfl)); intro gb420 hg w30 hbox hb; have n0_ := aA (Kd.R_below (mR HO405.out) hb); have n1_ := aA (Kd.R_below (mR HO413.out) hb); have n2_ := aA (Kd.R_below (mR HO418.out) hb); have n3_ := aA (below_step mB hb); have n4_ := aA (hbox); have n5_ := aA ((bZ hg mB)); have n6_ := aA ((bZ hg mB)); clear HO405 HO413 HO418 HB; have HO405 := n0_; have HO413 := n1_; have HO418 := n2_; have HB := n3_; have BK420 := n4_; have GW420 := n5_; have GE420 := n6_; clear n0_ n1_ n2_ n3_ n4_ n5_ n6_ hb hbox hg; obtain ⟨hcz31_0, hcz31_1, hcz31_2, hcz31_3, hcz31_4, hcz31_5, hcz31_6, hcz31_7, hcz31_8, hcz31_9, hcz31_10⟩ := bC11 BK420.out; obtain ⟨hfz31_0, hfz31_1, hfz31_2, hfz31_3, hfz31_4, hfz31_5, hfz31_6, hfz31_7, hfz31_8, hfz31_9, hfz31_10⟩ := bF11 BK420.out; obtain ⟨Ao32, co32, eo32⟩ := Kd.R_slice HO405.out; subst eo32; obtain ⟨Ao33, co33, eo33⟩ := Kd.R_slice HO413.out; subst eo33; obtain ⟨Ao34, co34, eo34⟩ := Kd.R_slice HO418.out; subst eo34) | ((with_reducible refine gate_callee (f := 31) rfl ?_); refine goesL_ (some 19) rfl rfl Try.func31 (by kernel_rfl) rfl #[.string (a0.extract 0 ((ji2) : Int).toNat)] rfl (by (try simp only [List.map_toArray, List.map_cons, List.map_nil]); first | done | (simp only [hji2]; rfl) | rfl | (simp only [List.length_drop, List.length_take]; rfl)) ?_; (with_reducible refine (foghornref17_Get.calls k (a0.extract 0 ((ji2) : Int).toNat) t421 t422 t425 t426 t427 t428 t429 t430 t433 t434 t435 true _ A6.out).mono ?_); rintro e w35 ⟨v423, v431, v436, rfl, ho0, ho1, ho2, hb⟩; refine ⟨_, rfl, ?_⟩; have n0_ := aA (Kd.R_mono (Kd.R_told (Kd.R_told (Kd.R_old (by (with_reducible repeat (first | apply Kd.R_alloc | apply Kd.R_drewN | apply Kd.R_drew)); exact (Kd.R_mono (rF 10 (rF 9 (rF 8 (rF 7 (rF 6 (rF 5 (rF 4 (rF 3 (rF 2 (rF 1 (rF 0 (Kd.R_types HO405.out BK420.out (by decide))))))))))))) (fun _ h_ => h_.1))) hb) (Kd.R_base ho0)) (Kd.R_base ho1)) (fun _ h_ => h_.1)); have n1_ := aA (Kd.R_mono (Kd.R_told (Kd.R_told (Kd.R_old (by (with_reducible repeat (first | apply Kd.R_alloc | apply Kd.R_drewN | apply Kd.R_drew)); exact (Kd.R_mono (rF 10 (rF 9 (rF 8 (rF 7 (rF 6 (rF 5 (rF 4 (rF 3 (rF 2 (rF 1 (rF 0 (Kd.R_types HO413.out BK420.out (by decide))))))))))))) (fun _ h_ => h_.1))) hb) (Kd.R_base ho0)) (Kd.R_base ho1)) (fun _ h_ => h_.1)); have n2_ := aA (Kd.R_elder' (by (with_reducible repeat (first | apply Kd.R_alloc | apply Kd.R_drewN | apply Kd.R_drew)); exact (Kd.R_mono (rF 10 (rF 9 (rF 8 (rF 7 (rF 6 (rF 5 (rF 4 (rF 3 (rF 2 (rF 1 (rF 0 (Kd.R_types HO418.out BK420.out (by decide))))))))))))) (fun _ h_ => h_.1))) (Kd.R_base ho2) hb); have n3_ := aA (Kd.R_lower (Kd.R_new' (Kd.R_new' ho0 (Kd.R_lt (by (with_reducible repeat (first | apply Kd.R_alloc | apply Kd.R_drewN | apply Kd.R_drew)); exact (Kd.R_mono (rF 10 (rF 9 (rF 8 (rF 7 (rF 6 (rF 5 (rF 4 (rF 3 (rF 2 (rF 1 (rF 0 (Kd.R_types HO405.out BK420.out (by decide))))))))))))) (fun _ h_ => h_.1))))) (Kd.R_lt (by (with_reducible repeat (first | apply Kd.R_alloc | apply Kd.R_drewN | apply Kd.R_drew)); exact (Kd.R_mono (rF 10 (rF 9 (rF 8 (rF 7 (rF 6 (rF 5 (rF 4 (rF 3 (rF 2 (rF 1 (rF 0 (Kd.R_types HO413.out BK420.out (by decide))))))))))))) (fun _ h_ => h_.1))))) (below_size (mD1 GE420.out))); have n4_ := aA (Kd.R_lower (Kd.R_new' (Kd.R_new' ho1 (Kd.R_lt (by (with_reducible repeat (first | apply Kd.R_alloc | apply Kd.R_drewN | apply Kd.R_drew)); exact (Kd.R_mono (rF 10 (rF 9 (rF 8 (rF 7 (rF 6 (rF 5 (rF 4 (rF 3 (rF 2 (rF 1 (rF 0 (Kd.R_types HO405.out BK420.out (by decide))))))))))))) (fun _ h_ => h_.1))))) (Kd.R_lt (by (with_reducible repeat (first | apply Kd.R_alloc | apply Kd.R_drewN | apply Kd.R_drew)); exact (Kd.R_mono (rF 10 (rF 9 (rF 8 (rF 7 (rF 6 (rF 5 (rF 4 (rF 3 (rF 2 (rF 1 (rF 0 (Kd.R_types HO413.out BK420.out (by decide))))))))))))) (fun _ h_ => h_.1))))) (below_size (mD1 GE420.out))); have n5_ := aA (Kd.R_lower (Kd.R_new' ho2 (Kd.R_lt (by (with_reducible repeat (first | apply Kd.R_alloc | apply Kd.R_drewN | apply Kd.R_drew)); exact (Kd.R_mono (rF 10 (rF 9 (rF 8 (rF 7 (rF 6 (rF 5 (rF 4 (rF 3 (rF 2 (rF 1 (rF 0 (Kd.R_types HO418.out BK420.out (by decide))))))))))))) (fun _ h_ => h_.1))))) (below_size (mD1 GE420.out))); have n6_ := aA (blk_below (g := gb420) (o := .cells #[.int .i64 t402, .slice Ao32 t403.length co32, .int .i64 t406, .int .i64 t407, .int .i64 t408, .int .i64 t409, .int .i64 t410, .slice Ao33 t411.length co33, .int .i64 t414, .int .i64 t415, .slice Ao34 t416.length co34] 50 (0, 0)) (by (with_reducible repeat (first | refine blk_drewN ?_ _ | refine blk_drew ?_ | refine blk_alloc ?_ _)); have h_ := BK420.out; exact pK 10 (pK 9 (pK 8 (pK 7 (pK 6 (pK 5 (pK 4 (pK 3 (pK 2 (pK 1 (pK 0 (h_)))))))))))) hb); have n7_ := aA (below_step (mD1 GE420.out) hb); clear HO405 HO413 HO418 BK420 HB; have HO405 := n0_; have HO413 := n1_; have HO418 := n2_; have HO424 := n3_; have HO432 := n4_; have HO437 := n5_; have BK420 := n6_; have HB := n7_; clear n0_ n1_ n2_ n3_ n4_ n5_ n6_ n7_; (try clear hb); (try clear hb2); (try clear hk); (try clear hi); (try clear ho0); (try clear ho1); (try clear ho2)) | ((with_reducible refine gate_dst (N := 5) rfl ?_); refine box_event ?hg (N := 5) ?hd (cs := #[.int .i64 0, .slice none 0 0, .int .i64 0, .int .i64 0, .int .i64 0, .int .i64 0, .int .i64 0, .slice none 0 0, .int .i64 0, .int .i64 0, .slice none 0 0]) (t := 50) ?hr ?_; (case hd => rfl); (case hg => rfl); (case hr => first | (go_simp; done) | (go_simp; rfl)); intro gb439 hg w36 hbox hb; have n0_ := aA (Kd.R_below (mR HO405.out) hb); have n1_ := aA (Kd.R_below (mR HO413.out) hb); have n2_ := aA (Kd.R_below (mR HO418.out) hb); have n3_ := aA (Kd.R_below (mR HO424.out) hb); have n4_ := aA (Kd.R_below (mR HO432.out) hb); have n5_ := aA (Kd.R_below (mR HO437.out) hb); have n6_ := aA (bB BK420.out hb); have n7_ := aA (below_step (mD1 GE420.out) hb); have n8_ := aA (hbox); have n9_ := aA ((bZ hg (mD1 GE420.out))); have n10_ := aA ((bZ hg (mD1 GE420.out))); have n11_ := aA ((bL hg BK420.out)); have n12_ := aA ((bG hg BK420.out)); clear HO405 HO413 HO418 HO424 HO432 HO437 BK420 HB; have HO405 := n0_; have HO413 := n1_; have HO418 := n2_; have HO424 := n3_; have HO432 := n4_; have HO437 := n5_; have BK420 := n6_; have HB := n7_; have BK439 := n8_; have GW439 := n9_; have GE439 := n10_; have NB420_439 := n11_; have NB439_420 := n12_; clear n0_ n1_ n2_ n3_ n4_ n5_ n6_ n7_ n8_ n9_ n10_ n11_ n12_ hb hbox hg; have hnb37 := NB439_420.out; have hnc37 := NB420_439.out; obtain ⟨hcz38_0, hcz38_1, hcz38_2, hcz38_3, hcz38_4, hcz38_5, hcz38_6, hcz38_7, hcz38_8, hcz38_9, hcz38_10⟩ := bC11 BK439.out; obtain ⟨hfz38_0, hfz38_1, hfz38_2, hfz38_3, hfz38_4, hfz38_5, hfz38_6, hfz38_7, hfz38_8, hfz38_9, hfz38_10⟩ := bF11 BK439.out; obtain ⟨Ao39, co39, eo39⟩ := Kd.R_slice HO424.out; subst eo39; obtain ⟨Ao40, co40, eo40⟩ := Kd.R_slice HO432.out; subst eo40; obtain ⟨Ao41, co41, eo41⟩ := Kd.R_slice HO437.out; subst eo41) | ((with_reducible refine gate_callee (f := 28) rfl ?_); refine goesL_ (some 34) rfl rfl Try.func28 (by kernel_rfl) rfl #[] rfl mS ?_; (with_reducible refine (foghornlaw17_alive.calls  true _ A8.out).mono ?_); rintro e w42 ⟨rfl, hb⟩; refine ⟨_, rfl, ?_⟩; have n0_ := aA (Kd.R_below (by (with_reducible repeat (first | apply Kd.R_alloc | apply Kd.R_drewN | apply Kd.R_drew)); exact (Kd.R_mono (rF 10 (rF 9 (rF 8 (rF 7 (rF 6 (rF 5 (rF 4 (rF 3 (rF 2 (rF 1 (rF 0 (Kd.R_types HO405.out BK439.out (by decide))))))))))))) (fun _ h_ => h_.1))) hb); have n1_ := aA (Kd.R_below (by (with_reducible repeat (first | apply Kd.R_alloc | apply Kd.R_drewN | apply Kd.R_drew)); exact (Kd.R_mono (rF 10 (rF 9 (rF 8 (rF 7 (rF 6 (rF 5 (rF 4 (rF 3 (rF 2 (rF 1 (rF 0 (Kd.R_types HO413.out BK439.out (by decide))))))))))))) (fun _ h_ => h_.1))) hb); have n2_ := aA (Kd.R_below (by (with_reducible repeat (first | apply Kd.R_alloc | apply Kd.R_drewN | apply Kd.R_drew)); exact (Kd.R_mono (rF 10 (rF 9 (rF 8 (rF 7 (rF 6 (rF 5 (rF 4 (rF 3 (rF 2 (rF 1 (rF 0 (Kd.R_types HO418.out BK439.out (by decide))))))))))))) (fun _ h_ => h_.1))) hb); have n3_ := aA (Kd.R_below (by (with_reducible repeat (first | apply Kd.R_alloc | apply Kd.R_drewN | apply Kd.R_drew)); exact (Kd.R_mono (rF 10 (rF 9 (rF 8 (rF 7 (rF 6 (rF 5 (rF 4 (rF 3 (rF 2 (rF 1 (rF 0 (Kd.R_types HO424.out BK439.out (by decide))))))))))))) (fun _ h_ => h_.1))) hb); have n4_ := aA (Kd.R_below (by (with_reducible repeat (first | apply Kd.R_alloc | apply Kd.R_drewN | apply Kd.R_drew)); exact (Kd.R_mono (rF 10 (rF 9 (rF 8 (rF 7 (rF 6 (rF 5 (rF 4 (rF 3 (rF 2 (rF 1 (rF 0 (Kd.R_types HO432.out BK439.out (by decide))))))))))))) (fun _ h_ => h_.1))) hb); have n5_ := aA (Kd.R_below (by (with_reducible repeat (first | apply Kd.R_alloc | apply Kd.R_drewN | apply Kd.R_drew)); exact (Kd.R_mono (rF 10 (rF 9 (rF 8 (rF 7 (rF 6 (rF 5 (rF 4 (rF 3 (rF 2 (rF 1 (rF 0 (Kd.R_types HO437.out BK439.out (by decide))))))))))))) (fun _ h_ => h_.1))) hb); have n6_ := aA (blk_below (g := gb420) (o := .cells #[.int .i64 t402, .slice Ao32 t403.length co32, .int .i64 t406, .int .i64 t407, .int .i64 t408, .int .i64 t409, .int .i64 t410, .slice Ao33 t411.length co33, .int .i64 t414, .int .i64 t415, .slice Ao34 t416.length co34] 50 (0, 0)) (by (with_reducible repeat (first | refine blk_drewN ?_ _ | refine blk_drew ?_ | refine blk_alloc ?_ _)); refine blk_far ?_ NB420_439.out _; (with_reducible repeat (first | refine blk_drewN ?_ _ | refine blk_drew ?_ | refine blk_alloc ?_ _)); refine blk_far ?_ NB420_439.out _; (with_reducible repeat (first | refine blk_drewN ?_ _ | refine blk_drew ?_ | refine blk_alloc ?_ _)); refine blk_far ?_ NB420_439.out _; (with_reducible repeat (first | refine blk_drewN ?_ _ | refine blk_drew ?_ | refine blk_alloc ?_ _)); refine blk_far ?_ NB420_439.out _; (with_reducible repeat (first | refine blk_drewN ?_ _ | refine blk_drew ?_ | refine blk_alloc ?_ _)); refine blk_far ?_ NB420_439.out _; (with_reducible repeat (first | refine blk_drewN ?_ _ | refine blk_drew ?_ | refine blk_alloc ?_ _)); refine blk_far ?_ NB420_439.out _; (with_reducible repeat (first | refine blk_drewN ?_ _ | refine blk_drew ?_ | refine blk_alloc ?_ _)); refine blk_far ?_ NB420_439.out _; (with_reducible repeat (first | refine blk_drewN ?_ _ | refine blk_drew ?_ | refine blk_alloc ?_ _)); refine blk_far ?_ NB420_439.out _; (with_reducible repeat (first | refine blk_drewN ?_ _ | refine blk_drew ?_ | refine blk_alloc ?_ _)); refine blk_far ?_ NB420_439.out _; (with_reducible repeat (first | refine blk_drewN ?_ _ | refine blk_drew ?_ | refine blk_alloc ?_ _)); refine blk_far ?_ NB420_439.out _; (with_reducible repeat (first | refine blk_drewN ?_ _ | refine blk_drew ?_ | refine blk_alloc ?_ _)); refine blk_far ?_ NB420_439.out _; (with_reducible repeat (first | refine blk_drewN ?_ _ | refine blk_drew ?_ | refine blk_alloc ?_ _)); exact BK420.out) hb); have n7_ := aA (blk_below (g := gb439) (o := .cells #[.int .i64 t421, .slice Ao39 t422.length co39, .int .i64 t425, .int .i64 t426, .int .i64 t427, .int .i64 t428, .int .i64 t429, .slice Ao40 t430.length co40, .int .i64 t433, .int .i64 t434, .slice Ao41 t435.length co41] 50 (0, 0)) (by (with_reducible repeat (first | refine blk_drewN ?_ _ | refine blk_drew ?_ | refine blk_alloc ?_ _)); have h_ := BK439.out; exact pK 10 (pK 9 (pK 8 (pK 7 (pK 6 (pK 5 (pK 4 (pK 3 (pK 2 (pK 1 (pK 0 (h_)))))))))))) hb); have n8_ := aA (below_step (mD2 GE420.out GE439.out) hb); clear HO405 HO413 HO418 HO424 HO432 HO437 BK420 BK439 HB; have HO405 := n0_; have HO413 := n1_; have HO418 := n2_; have HO424 := n3_; have HO432 := n4_; have HO437 := n5_; have BK420 := n6_; have BK439 := n7_; have HB := n8_; clear n0_ n1_ n2_ n3_ n4_ n5_ n6_ n7_ n8_; (try clear hb); (try clear hb2); (try clear hk); (try clear hi)))
      go_ret
      exact ⟨by first | rfl | (simp [errW_none, errW_some] <;> rfl) | (simp only [← hji2]; first | rfl | (simp [errW_none, errW_some] <;> rfl)) | (simp [*, errW_none, errW_some] <;> rfl), by repeat (first | (with_reducible first | exact HB.out | apply below_alloc | apply pw_below_drewN | apply below_drew1 | refine below_set ?_ GE420.out | refine below_set ?_ GE439.out) | exact HB.out)⟩
    ·replace c9 := Bool.eq_false_iff.mpr c9
     subst c9
     have H1 : (some false) = some r := by rw [if_neg (show ¬ (false = true) by decide)] at H; exact H
     clear H
     have H := H1
     clear H1
     obtain rfl := Option.some.inj H
     go_enter Try.func7, Try.ntmps7
     go_wp2_with (first | ((with_reducible refine gate_callee (f := 30) rfl ?_); refine goesL_ (some 14) rfl rfl Try.func30 (by kernel_rfl) rfl #[.string (a0.extract 0 ((ji2) : Int).toNat)] rfl (by (try simp only [List.map_toArray, List.map_cons, List.map_nil]); first | done | (simp only [hji2]; rfl) | rfl | (simp only [List.length_drop, List.length_take]; rfl)) ?_; (with_reducible refine (code_Get.calls (a0.extract 0 ((ji2) : Int).toNat) t402 t403 t406 t407 t408 t409 t410 t411 t414 t415 t416 t419 _ A5.out).mono ?_); rintro e w43 ⟨v404, v412, v417, rfl, ho0, ho1, ho2, hb⟩; refine ⟨_, rfl, ?_⟩; have n0_ := aA (Kd.R_lower ho0 (below_size mB)); have n1_ := aA (Kd.R_lower ho1 (below_size mB)); have n2_ := aA (Kd.R_lower ho2 (below_size mB)); have n3_ := aA (below_step mB hb); clear HB; have HO405 := n0_; have HO413 := n1_; have HO418 := n2_; have HB := n3_; clear n0_ n1_ n2_ n3_; (try clear hb); (try clear hb2); (try clear hk); (try clear hi); (try clear ho0); (try clear ho1); (try clear ho2)) | ((with_reducible refine gate_dst (N := 3) rfl ?_); refine box_event ?hg (N := 3) ?hd (cs := #[.int .i64 0, .slice none 0 0, .int .i64 0, .int .i64 0, .int .i64 0, .int .i64 0, .int .i64 0, .slice none 0 0, .int .i64 0, .int .i64 0, .slice none 0 0]) (t := 50) ?hr ?_; (case hd => rfl); (case hg => rfl); (case hr => first | (go_simp; done) | (go_simp; rfl)); intro gb420 hg w44 hbox hb; have n0_ := aA (Kd.R_below (mR HO405.out) hb); have n1_ := aA (Kd.R_below (mR HO413.out) hb); have n2_ := aA (Kd.R_below (mR HO418.out) hb); have n3_ := aA (below_step mB hb); have n4_ := aA (hbox); have n5_ := aA ((bZ hg mB)); have n6_ := aA ((bZ hg mB)); clear HO405 HO413 HO418 HB; have HO405 := n0_; have HO413 := n1_; have HO418 := n2_; have HB := n3_; have BK420 := n4_; have GW420 := n5_; have GE420 := n6_; clear n0_ n1_ n2_ n3_ n4_ n5_ n6_ hb hbox hg; obtain ⟨hcz45_0, hcz45_1, hcz45_2, hcz45_3, hcz45_4, hcz45_5, hcz45_6, hcz45_7, hcz45_8, hcz45_9, hcz45_10⟩ := bC11 BK420.out; obtain ⟨hfz45_0, hfz45_1, hfz45_2, hfz45_3, hfz45_4, hfz45_5, hfz45_6, hfz45_7, hfz45_8, hfz45_9, hfz45_10⟩ := bF11 BK420.out; obtain ⟨Ao46, co46, eo46⟩ := Kd.R_slice HO405.out; subst eo46; obtain ⟨Ao47, co47, eo47⟩ := Kd.R_slice HO413.out; subst eo47; obtain ⟨Ao48, co48, eo48⟩ := Kd.R_slice HO418.out; subst eo48) | ((with_reducible refine gate_callee (f := 31) rfl ?_); refine goesL_ (some 19) rfl rfl Try.func31 (by kernel_rfl) rfl #[.string (a0.extract 0 ((ji2) : Int).toNat)] rfl (by (try simp only [List.map_toArray, List.map_cons, List.map_nil]); first | done | (simp only [hji2]; rfl) | rfl | (simp only [List.length_drop, List.length_take]; rfl)) ?_; (with_reducible refine (foghornref17_Get.calls k (a0.extract 0 ((ji2) : Int).toNat) t421 t422 t425 t426 t427 t428 t429 t430 t433 t434 t435 true _ A6.out).mono ?_); rintro e w49 ⟨v423, v431, v436, rfl, ho0, ho1, ho2, hb⟩; refine ⟨_, rfl, ?_⟩; have n0_ := aA (Kd.R_mono (Kd.R_told (Kd.R_told (Kd.R_old (by (with_reducible repeat (first | apply Kd.R_alloc | apply Kd.R_drewN | apply Kd.R_drew)); exact (Kd.R_mono (rF 10 (rF 9 (rF 8 (rF 7 (rF 6 (rF 5 (rF 4 (rF 3 (rF 2 (rF 1 (rF 0 (Kd.R_types HO405.out BK420.out (by decide))))))))))))) (fun _ h_ => h_.1))) hb) (Kd.R_base ho0)) (Kd.R_base ho1)) (fun _ h_ => h_.1)); have n1_ := aA (Kd.R_mono (Kd.R_told (Kd.R_told (Kd.R_old (by (with_reducible repeat (first | apply Kd.R_alloc | apply Kd.R_drewN | apply Kd.R_drew)); exact (Kd.R_mono (rF 10 (rF 9 (rF 8 (rF 7 (rF 6 (rF 5 (rF 4 (rF 3 (rF 2 (rF 1 (rF 0 (Kd.R_types HO413.out BK420.out (by decide))))))))))))) (fun _ h_ => h_.1))) hb) (Kd.R_base ho0)) (Kd.R_base ho1)) (fun _ h_ => h_.1)); have n2_ := aA (Kd.R_elder' (by (with_reducible repeat (first | apply Kd.R_alloc | apply Kd.R_drewN | apply Kd.R_drew)); exact (Kd.R_mono (rF 10 (rF 9 (rF 8 (rF 7 (rF 6 (rF 5 (rF 4 (rF 3 (rF 2 (rF 1 (rF 0 (Kd.R_types HO418.out BK420.out (by decide))))))))))))) (fun _ h_ => h_.1))) (Kd.R_base ho2) hb); have n3_ := aA (Kd.R_lower (Kd.R_new' (Kd.R_new' ho0 (Kd.R_lt (by (with_reducible repeat (first | apply Kd.R_alloc | apply Kd.R_drewN | apply Kd.R_drew)); exact (Kd.R_mono (rF 10 (rF 9 (rF 8 (rF 7 (rF 6 (rF 5 (rF 4 (rF 3 (rF 2 (rF 1 (rF 0 (Kd.R_types HO405.out BK420.out (by decide))))))))))))) (fun _ h_ => h_.1))))) (Kd.R_lt (by (with_reducible repeat (first | apply Kd.R_alloc | apply Kd.R_drewN | apply Kd.R_drew)); exact (Kd.R_mono (rF 10 (rF 9 (rF 8 (rF 7 (rF 6 (rF 5 (rF 4 (rF 3 (rF 2 (rF 1 (rF 0 (Kd.R_types HO413.out BK420.out (by decide))))))))))))) (fun _ h_ => h_.1))))) (below_size (mD1 GE420.out))); have n4_ := aA (Kd.R_lower (Kd.R_new' (Kd.R_new' ho1 (Kd.R_lt (by (with_reducible repeat (first | apply Kd.R_alloc | apply Kd.R_drewN | apply Kd.R_drew)); exact (Kd.R_mono (rF 10 (rF 9 (rF 8 (rF 7 (rF 6 (rF 5 (rF 4 (rF 3 (rF 2 (rF 1 (rF 0 (Kd.R_types HO405.out BK420.out (by decide))))))))))))) (fun _ h_ => h_.1))))) (Kd.R_lt (by (with_reducible repeat (first | apply Kd.R_alloc | apply Kd.R_drewN | apply Kd.R_drew)); exact (Kd.R_mono (rF 10 (rF 9 (rF 8 (rF 7 (rF 6 (rF 5 (rF 4 (rF 3 (rF 2 (rF 1 (rF 0 (Kd.R_types HO413.out BK420.out (by decide))))))))))))) (fun _ h_ => h_.1))))) (below_size (mD1 GE420.out))); have n5_ := aA (Kd.R_lower (Kd.R_new' ho2 (Kd.R_lt (by (with_reducible repeat (first | apply Kd.R_alloc | apply Kd.R_drewN | apply Kd.R_drew)); exact (Kd.R_mono (rF 10 (rF 9 (rF 8 (rF 7 (rF 6 (rF 5 (rF 4 (rF 3 (rF 2 (rF 1 (rF 0 (Kd.R_types HO418.out BK420.out (by decide))))))))))))) (fun _ h_ => h_.1))))) (below_size (mD1 GE420.out))); have n6_ := aA (blk_below (g := gb420) (o := .cells #[.int .i64 t402, .slice Ao46 t403.length co46, .int .i64 t406, .int .i64 t407, .int .i64 t408, .int .i64 t409, .int .i64 t410, .slice Ao47 t411.length co47, .int .i64 t414, .int .i64 t415, .slice Ao48 t416.length co48] 50 (0, 0)) (by (with_reducible repeat (first | refine blk_drewN ?_ _ | refine blk_drew ?_ | refine blk_alloc ?_ _)); have h_ := BK420.out; exact pK 10 (pK 9 (pK 8 (pK 7 (pK 6 (pK 5 (pK 4 (pK 3 (pK 2 (pK 1 (pK 0 (h_)))))))))))) hb); have n7_ := aA (below_step (mD1 GE420.out) hb); clear HO405 HO413 HO418 BK420 HB; have HO405 := n0_; have HO413 := n1_; have HO418 := n2_; have HO424 := n3_; have HO432 := n4_; have HO437 := n5_; have BK420 := n6_; have HB := n7_; clear n0_ n1_ n2_ n3_ n4_ n5_ n6_ n7_; (try clear hb); (try clear hb2); (try clear hk); (try clear hi); (try clear ho0); (try clear ho1); (try clear ho2)) | ((with_reducible refine gate_dst (N := 5) rfl ?_); refine box_event ?hg (N := 5) ?hd (cs := #[.int .i64 0, .slice none 0 0, .int .i64 0, .int .i64 0, .int .i64 0, .int .i64 0, .int .i64 0, .slice none 0 0, .int .i64 0, .int .i64 0, .slice none 0 0]) (t := 50) ?hr ?_; (case hd => rfl); (case hg => rfl); (case hr => first | (go_simp; done) | (go_simp; rfl)); intro gb439 hg w50 hbox hb; have n0_ := aA (Kd.R_below (mR HO405.out) hb); have n1_ := aA (Kd.R_below (mR HO413.out) hb); have n2_ := aA (Kd.R_below (mR HO418.out) hb); have n3_ := aA (Kd.R_below (mR HO424.out) hb); have n4_ := aA (Kd.R_below (mR HO432.out) hb); have n5_ := aA (Kd.R_below (mR HO437.out) hb); have n6_ := aA (bB BK420.out hb); have n7_ := aA (below_step (mD1 GE420.out) hb); have n8_ := aA (hbox); have n9_ := aA ((bZ hg (mD1 GE420.out))); have n10_ := aA ((bZ hg (mD1 GE420.out))); have n11_ := aA ((bL hg BK420.out)); have n12_ := aA ((bG hg BK420.out)); clear HO405 HO413 HO418 HO424 HO432 HO437 BK420 HB; have HO405 := n0_; have HO413 := n1_; have HO418 := n2_; have HO424 := n3_; have HO432 := n4_; have HO437 := n5_; have BK420 := n6_; have HB := n7_; have BK439 := n8_; have GW439 := n9_; have GE439 := n10_; have NB420_439 := n11_; have NB439_420 := n12_; clear n0_ n1_ n2_ n3_ n4_ n5_ n6_ n7_ n8_ n9_ n10_ n11_ n12_ hb hbox hg; have hnb51 := NB439_420.out; have hnc51 := NB420_439.out; obtain ⟨hcz52_0, hcz52_1, hcz52_2, hcz52_3, hcz52_4, hcz52_5, hcz52_6, hcz52_7, hcz52_8, hcz52_9, hcz52_10⟩ := bC11 BK439.out; obtain ⟨hfz52_0, hfz52_1, hfz52_2, hfz52_3, hfz52_4, hfz52_5, hfz52_6, hfz52_7, hfz52_8, hfz52_9, hfz52_10⟩ := bF11 BK439.out; obtain ⟨Ao53, co53, eo53⟩ := Kd.R_slice HO424.out; subst eo53; obtain ⟨Ao54, co54, eo54⟩ := Kd.R_slice HO432.out; subst eo54; obtain ⟨Ao55, co55, eo55⟩ := Kd.R_slice HO437.out; subst eo55) | ((with_reducible refine gate_callee (f := 28) rfl ?_); refine goesL_ (some 34) rfl rfl Try.func28 (by kernel_rfl) rfl #[] rfl mS ?_; (with_reducible refine (foghornlaw17_alive.calls  false _ A8.out).mono ?_); rintro e w56 ⟨rfl, hb⟩; refine ⟨_, rfl, ?_⟩; have n0_ := aA (Kd.R_below (by (with_reducible repeat (first | apply Kd.R_alloc | apply Kd.R_drewN | apply Kd.R_drew)); exact (Kd.R_mono (rF 10 (rF 9 (rF 8 (rF 7 (rF 6 (rF 5 (rF 4 (rF 3 (rF 2 (rF 1 (rF 0 (Kd.R_types HO405.out BK439.out (by decide))))))))))))) (fun _ h_ => h_.1))) hb); have n1_ := aA (Kd.R_below (by (with_reducible repeat (first | apply Kd.R_alloc | apply Kd.R_drewN | apply Kd.R_drew)); exact (Kd.R_mono (rF 10 (rF 9 (rF 8 (rF 7 (rF 6 (rF 5 (rF 4 (rF 3 (rF 2 (rF 1 (rF 0 (Kd.R_types HO413.out BK439.out (by decide))))))))))))) (fun _ h_ => h_.1))) hb); have n2_ := aA (Kd.R_below (by (with_reducible repeat (first | apply Kd.R_alloc | apply Kd.R_drewN | apply Kd.R_drew)); exact (Kd.R_mono (rF 10 (rF 9 (rF 8 (rF 7 (rF 6 (rF 5 (rF 4 (rF 3 (rF 2 (rF 1 (rF 0 (Kd.R_types HO418.out BK439.out (by decide))))))))))))) (fun _ h_ => h_.1))) hb); have n3_ := aA (Kd.R_below (by (with_reducible repeat (first | apply Kd.R_alloc | apply Kd.R_drewN | apply Kd.R_drew)); exact (Kd.R_mono (rF 10 (rF 9 (rF 8 (rF 7 (rF 6 (rF 5 (rF 4 (rF 3 (rF 2 (rF 1 (rF 0 (Kd.R_types HO424.out BK439.out (by decide))))))))))))) (fun _ h_ => h_.1))) hb); have n4_ := aA (Kd.R_below (by (with_reducible repeat (first | apply Kd.R_alloc | apply Kd.R_drewN | apply Kd.R_drew)); exact (Kd.R_mono (rF 10 (rF 9 (rF 8 (rF 7 (rF 6 (rF 5 (rF 4 (rF 3 (rF 2 (rF 1 (rF 0 (Kd.R_types HO432.out BK439.out (by decide))))))))))))) (fun _ h_ => h_.1))) hb); have n5_ := aA (Kd.R_below (by (with_reducible repeat (first | apply Kd.R_alloc | apply Kd.R_drewN | apply Kd.R_drew)); exact (Kd.R_mono (rF 10 (rF 9 (rF 8 (rF 7 (rF 6 (rF 5 (rF 4 (rF 3 (rF 2 (rF 1 (rF 0 (Kd.R_types HO437.out BK439.out (by decide))))))))))))) (fun _ h_ => h_.1))) hb); have n6_ := aA (blk_below (g := gb420) (o := .cells #[.int .i64 t402, .slice Ao46 t403.length co46, .int .i64 t406, .int .i64 t407, .int .i64 t408, .int .i64 t409, .int .i64 t410, .slice Ao47 t411.length co47, .int .i64 t414, .int .i64 t415, .slice Ao48 t416.length co48] 50 (0, 0)) (by (with_reducible repeat (first | refine blk_drewN ?_ _ | refine blk_drew ?_ | refine blk_alloc ?_ _)); refine blk_far ?_ NB420_439.out _; (with_reducible repeat (first | refine blk_drewN ?_ _ | refine blk_drew ?_ | refine blk_alloc ?_ _)); refine blk_far ?_ NB420_439.out _; (with_reducible repeat (first | refine blk_drewN ?_ _ | refine blk_drew ?_ | refine blk_alloc ?_ _)); refine blk_far ?_ NB420_439.out _; (with_reducible repeat (first | refine blk_drewN ?_ _ | refine blk_drew ?_ | refine blk_alloc ?_ _)); refine blk_far ?_ NB420_439.out _; (with_reducible repeat (first | refine blk_drewN ?_ _ | refine blk_drew ?_ | refine blk_alloc ?_ _)); refine blk_far ?_ NB420_439.out _; (with_reducible repeat (first | refine blk_drewN ?_ _ | refine blk_drew ?_ | refine blk_alloc ?_ _)); refine blk_far ?_ NB420_439.out _; (with_reducible repeat (first | refine blk_drewN ?_ _ | refine blk_drew ?_ | refine blk_alloc ?_ _)); refine blk_far ?_ NB420_439.out _; (with_reducible repeat (first | refine blk_drewN ?_ _ | refine blk_drew ?_ | refine blk_alloc ?_ _)); refine blk_far ?_ NB420_439.out _; (with_reducible repeat (first | refine blk_drewN ?_ _ | refine blk_drew ?_ | refine blk_alloc ?_ _)); refine blk_far ?_ NB420_439.out _; (with_reducible repeat (first | refine blk_drewN ?_ _ | refine blk_drew ?_ | refine blk_alloc ?_ _)); refine blk_far ?_ NB420_439.out _; (with_reducible repeat (first | refine blk_drewN ?_ _ | refine blk_drew ?_ | refine blk_alloc ?_ _)); refine blk_far ?_ NB420_439.out _; (with_reducible repeat (first | refine blk_drewN ?_ _ | refine blk_drew ?_ | refine blk_alloc ?_ _)); exact BK420.out) hb); have n7_ := aA (blk_below (g := gb439) (o := .cells #[.int .i64 t421, .slice Ao53 t422.length co53, .int .i64 t425, .int .i64 t426, .int .i64 t427, .int .i64 t428, .int .i64 t429, .slice Ao54 t430.length co54, .int .i64 t433, .int .i64 t434, .slice Ao55 t435.length co55] 50 (0, 0)) (by (with_reducible repeat (first | refine blk_drewN ?_ _ | refine blk_drew ?_ | refine blk_alloc ?_ _)); have h_ := BK439.out; exact pK 10 (pK 9 (pK 8 (pK 7 (pK 6 (pK 5 (pK 4 (pK 3 (pK 2 (pK 1 (pK 0 (h_)))))))))))) hb); have n8_ := aA (below_step (mD2 GE420.out GE439.out) hb); clear HO405 HO413 HO418 HO424 HO432 HO437 BK420 BK439 HB; have HO405 := n0_; have HO413 := n1_; have HO418 := n2_; have HO424 := n3_; have HO432 := n4_; have HO437 := n5_; have BK420 := n6_; have BK439 := n7_; have HB := n8_; clear n0_ n1_ n2_ n3_ n4_ n5_ n6_ n7_ n8_; (try clear hb); (try clear hb2); (try clear hk); (try clear hi)))
     go_ret
     exact ⟨by first | rfl | (simp [errW_none, errW_some] <;> rfl) | (simp only [← hji2]; first | rfl | (simp [errW_none, errW_some] <;> rfl)) | (simp [*, errW_none, errW_some] <;> rfl), by repeat (first | (with_reducible first | exact HB.out | apply below_alloc | apply pw_below_drewN | apply below_drew1 | refine below_set ?_ GE420.out | refine below_set ?_ GE439.out) | exact HB.out)⟩
   ·replace c7 := Bool.eq_false_iff.mpr c7
    subst c7
    have H1 : ((foghornlaw17_alive.f).bind fun t442 => (if t442 = true then (if t419 = 13 then ((foghornref17_Same.f k t402 t403 t406 t407 t408 t409 t410 t411 t414 t415 t416 0 ([] : List (S41)) 0 0 0 0 0 ([] : List (S41)) 0 0 ([] : List (S35))).bind fun t443 => (some t443)) else (some false)) else (some false))) = some r := by rw [if_neg (show ¬ (false = true) by decide)] at H; exact H
    clear H
    have H := H1
    clear H1
    replace H := Option.bind_eq_some_iff.mp H
    obtain ⟨t442, A570, H⟩ := H
    have A57 := aA A570
    clear A570
    by_cases c58 : t442 = true
    ·subst c58
     have H1 : (if t419 = 13 then ((foghornref17_Same.f k t402 t403 t406 t407 t408 t409 t410 t411 t414 t415 t416 0 ([] : List (S41)) 0 0 0 0 0 ([] : List (S41)) 0 0 ([] : List (S35))).bind fun t443 => (some t443)) else (some false)) = some r := by rw [if_pos rfl] at H; exact H
     clear H
     have H := H1
     clear H1
     by_cases c59 : t419 = 13
     ·rw [if_pos c59] at H
      have c59b0 : (t419 == 13) = true := beq_iff_eq.mpr c59
      have c59b1 : (t419 != 13) = false := bne_eq_false_iff_eq.mpr c59
      clear c59
      replace H := Option.bind_eq_some_iff.mp H
      obtain ⟨t443, A600, H⟩ := H
      have A60 := aA A600
      clear A600
      obtain rfl := Option.some.inj H
      go_enter Try.func7, Try.ntmps7
      go_wp2_with (first | ((with_reducible refine gate_callee (f := 30) rfl ?_); refine goesL_ (some 14) rfl rfl Try.func30 (by kernel_rfl) rfl #[.string (a0.extract 0 ((ji2) : Int).toNat)] rfl (by (try simp only [List.map_toArray, List.map_cons, List.map_nil]); first | done | (simp only [hji2]; rfl) | rfl | (simp only [List.length_drop, List.length_take]; rfl)) ?_; (with_reducible refine (code_Get.calls (a0.extract 0 ((ji2) : Int).toNat) t402 t403 t406 t407 t408 t409 t410 t411 t414 t415 t416 t419 _ A5.out).mono ?_); rintro e w61 ⟨v404, v412, v417, rfl, ho0, ho1, ho2, hb⟩; refine ⟨_, rfl, ?_⟩; have n0_ := aA (Kd.R_lower ho0 (below_size mB)); have n1_ := aA (Kd.R_lower ho1 (below_size mB)); have n2_ := aA (Kd.R_lower ho2 (below_size mB)); have n3_ := aA (below_step mB hb); clear HB; have HO405 := n0_; have HO413 := n1_; have HO418 := n2_; have HB := n3_; clear n0_ n1_ n2_ n3_; (try clear hb); (try clear hb2); (try clear hk); (try clear hi); (try clear ho0); (try clear ho1); (try clear ho2)) | ((with_reducible refine gate_dst (N := 3) rfl ?_); refine box_event ?hg (N := 3) ?hd (cs := #[.int .i64 0, .slice none 0 0, .int .i64 0, .int .i64 0, .int .i64 0, .int .i64 0, .int .i64 0, .slice none 0 0, .int .i64 0, .int .i64 0, .slice none 0 0]) (t := 50) ?hr ?_; (case hd => rfl); (case hg => rfl); (case hr => first | (go_simp; done) | (go_simp; rfl)); intro gb420 hg w62 hbox hb; have n0_ := aA (Kd.R_below (mR HO405.out) hb); have n1_ := aA (Kd.R_below (mR HO413.out) hb); have n2_ := aA (Kd.R_below (mR HO418.out) hb); have n3_ := aA (below_step mB hb); have n4_ := aA (hbox); have n5_ := aA ((bZ hg mB)); have n6_ := aA ((bZ hg mB)); clear HO405 HO413 HO418 HB; have HO405 := n0_; have HO413 := n1_; have HO418 := n2_; have HB := n3_; have BK420 := n4_; have GW420 := n5_; have GE420 := n6_; clear n0_ n1_ n2_ n3_ n4_ n5_ n6_ hb hbox hg; obtain ⟨hcz63_0, hcz63_1, hcz63_2, hcz63_3, hcz63_4, hcz63_5, hcz63_6, hcz63_7, hcz63_8, hcz63_9, hcz63_10⟩ := bC11 BK420.out; obtain ⟨hfz63_0, hfz63_1, hfz63_2, hfz63_3, hfz63_4, hfz63_5, hfz63_6, hfz63_7, hfz63_8, hfz63_9, hfz63_10⟩ := bF11 BK420.out; obtain ⟨Ao64, co64, eo64⟩ := Kd.R_slice HO405.out; subst eo64; obtain ⟨Ao65, co65, eo65⟩ := Kd.R_slice HO413.out; subst eo65; obtain ⟨Ao66, co66, eo66⟩ := Kd.R_slice HO418.out; subst eo66) | ((with_reducible refine gate_callee (f := 31) rfl ?_); refine goesL_ (some 19) rfl rfl Try.func31 (by kernel_rfl) rfl #[.string (a0.extract 0 ((ji2) : Int).toNat)] rfl (by (try simp only [List.map_toArray, List.map_cons, List.map_nil]); first | done | (simp only [hji2]; rfl) | rfl | (simp only [List.length_drop, List.length_take]; rfl)) ?_; (with_reducible refine (foghornref17_Get.calls k (a0.extract 0 ((ji2) : Int).toNat) t421 t422 t425 t426 t427 t428 t429 t430 t433 t434 t435 false _ A6.out).mono ?_); rintro e w67 ⟨v423, v431, v436, rfl, ho0, ho1, ho2, hb⟩; refine ⟨_, rfl, ?_⟩; have n0_ := aA (Kd.R_mono (Kd.R_told (Kd.R_told (Kd.R_old (by (with_reducible repeat (first | apply Kd.R_alloc | apply Kd.R_drewN | apply Kd.R_drew)); exact (Kd.R_mono (rF 10 (rF 9 (rF 8 (rF 7 (rF 6 (rF 5 (rF 4 (rF 3 (rF 2 (rF 1 (rF 0 (Kd.R_types HO405.out BK420.out (by decide))))))))))))) (fun _ h_ => h_.1))) hb) (Kd.R_base ho0)) (Kd.R_base ho1)) (fun _ h_ => h_.1)); have n1_ := aA (Kd.R_mono (Kd.R_told (Kd.R_told (Kd.R_old (by (with_reducible repeat (first | apply Kd.R_alloc | apply Kd.R_drewN | apply Kd.R_drew)); exact (Kd.R_mono (rF 10 (rF 9 (rF 8 (rF 7 (rF 6 (rF 5 (rF 4 (rF 3 (rF 2 (rF 1 (rF 0 (Kd.R_types HO413.out BK420.out (by decide))))))))))))) (fun _ h_ => h_.1))) hb) (Kd.R_base ho0)) (Kd.R_base ho1)) (fun _ h_ => h_.1)); have n2_ := aA (Kd.R_elder' (by (with_reducible repeat (first | apply Kd.R_alloc | apply Kd.R_drewN | apply Kd.R_drew)); exact (Kd.R_mono (rF 10 (rF 9 (rF 8 (rF 7 (rF 6 (rF 5 (rF 4 (rF 3 (rF 2 (rF 1 (rF 0 (Kd.R_types HO418.out BK420.out (by decide))))))))))))) (fun _ h_ => h_.1))) (Kd.R_base ho2) hb); have n3_ := aA (Kd.R_lower (Kd.R_new' (Kd.R_new' ho0 (Kd.R_lt (by (with_reducible repeat (first | apply Kd.R_alloc | apply Kd.R_drewN | apply Kd.R_drew)); exact (Kd.R_mono (rF 10 (rF 9 (rF 8 (rF 7 (rF 6 (rF 5 (rF 4 (rF 3 (rF 2 (rF 1 (rF 0 (Kd.R_types HO405.out BK420.out (by decide))))))))))))) (fun _ h_ => h_.1))))) (Kd.R_lt (by (with_reducible repeat (first | apply Kd.R_alloc | apply Kd.R_drewN | apply Kd.R_drew)); exact (Kd.R_mono (rF 10 (rF 9 (rF 8 (rF 7 (rF 6 (rF 5 (rF 4 (rF 3 (rF 2 (rF 1 (rF 0 (Kd.R_types HO413.out BK420.out (by decide))))))))))))) (fun _ h_ => h_.1))))) (below_size (mD1 GE420.out))); have n4_ := aA (Kd.R_lower (Kd.R_new' (Kd.R_new' ho1 (Kd.R_lt (by (with_reducible repeat (first | apply Kd.R_alloc | apply Kd.R_drewN | apply Kd.R_drew)); exact (Kd.R_mono (rF 10 (rF 9 (rF 8 (rF 7 (rF 6 (rF 5 (rF 4 (rF 3 (rF 2 (rF 1 (rF 0 (Kd.R_types HO405.out BK420.out (by decide))))))))))))) (fun _ h_ => h_.1))))) (Kd.R_lt (by (with_reducible repeat (first | apply Kd.R_alloc | apply Kd.R_drewN | apply Kd.R_drew)); exact (Kd.R_mono (rF 10 (rF 9 (rF 8 (rF 7 (rF 6 (rF 5 (rF 4 (rF 3 (rF 2 (rF 1 (rF 0 (Kd.R_types HO413.out BK420.out (by decide))))))))))))) (fun _ h_ => h_.1))))) (below_size (mD1 GE420.out))); have n5_ := aA (Kd.R_lower (Kd.R_new' ho2 (Kd.R_lt (by (with_reducible repeat (first | apply Kd.R_alloc | apply Kd.R_drewN | apply Kd.R_drew)); exact (Kd.R_mono (rF 10 (rF 9 (rF 8 (rF 7 (rF 6 (rF 5 (rF 4 (rF 3 (rF 2 (rF 1 (rF 0 (Kd.R_types HO418.out BK420.out (by decide))))))))))))) (fun _ h_ => h_.1))))) (below_size (mD1 GE420.out))); have n6_ := aA (blk_below (g := gb420) (o := .cells #[.int .i64 t402, .slice Ao64 t403.length co64, .int .i64 t406, .int .i64 t407, .int .i64 t408, .int .i64 t409, .int .i64 t410, .slice Ao65 t411.length co65, .int .i64 t414, .int .i64 t415, .slice Ao66 t416.length co66] 50 (0, 0)) (by (with_reducible repeat (first | refine blk_drewN ?_ _ | refine blk_drew ?_ | refine blk_alloc ?_ _)); have h_ := BK420.out; exact pK 10 (pK 9 (pK 8 (pK 7 (pK 6 (pK 5 (pK 4 (pK 3 (pK 2 (pK 1 (pK 0 (h_)))))))))))) hb); have n7_ := aA (below_step (mD1 GE420.out) hb); clear HO405 HO413 HO418 BK420 HB; have HO405 := n0_; have HO413 := n1_; have HO418 := n2_; have HO424 := n3_; have HO432 := n4_; have HO437 := n5_; have BK420 := n6_; have HB := n7_; clear n0_ n1_ n2_ n3_ n4_ n5_ n6_ n7_; (try clear hb); (try clear hb2); (try clear hk); (try clear hi); (try clear ho0); (try clear ho1); (try clear ho2)) | ((with_reducible refine gate_dst (N := 5) rfl ?_); refine box_event ?hg (N := 5) ?hd (cs := #[.int .i64 0, .slice none 0 0, .int .i64 0, .int .i64 0, .int .i64 0, .int .i64 0, .int .i64 0, .slice none 0 0, .int .i64 0, .int .i64 0, .slice none 0 0]) (t := 50) ?hr ?_; (case hd => rfl); (case hg => rfl); (case hr => first | (go_simp; done) | (go_simp; rfl)); intro gb439 hg w68 hbox hb; have n0_ := aA (Kd.R_below (mR HO405.out) hb); have n1_ := aA (Kd.R_below (mR HO413.out) hb); have n2_ := aA (Kd.R_below (mR HO418.out) hb); have n3_ := aA (Kd.R_below (mR HO424.out) hb); have n4_ := aA (Kd.R_below (mR HO432.out) hb); have n5_ := aA (Kd.R_below (mR HO437.out) hb); have n6_ := aA (bB BK420.out hb); have n7_ := aA (below_step (mD1 GE420.out) hb); have n8_ := aA (hbox); have n9_ := aA ((bZ hg (mD1 GE420.out))); have n10_ := aA ((bZ hg (mD1 GE420.out))); have n11_ := aA ((bL hg BK420.out)); have n12_ := aA ((bG hg BK420.out)); clear HO405 HO413 HO418 HO424 HO432 HO437 BK420 HB; have HO405 := n0_; have HO413 := n1_; have HO418 := n2_; have HO424 := n3_; have HO432 := n4_; have HO437 := n5_; have BK420 := n6_; have HB := n7_; have BK439 := n8_; have GW439 := n9_; have GE439 := n10_; have NB420_439 := n11_; have NB439_420 := n12_; clear n0_ n1_ n2_ n3_ n4_ n5_ n6_ n7_ n8_ n9_ n10_ n11_ n12_ hb hbox hg; have hnb69 := NB439_420.out; have hnc69 := NB420_439.out; obtain ⟨hcz70_0, hcz70_1, hcz70_2, hcz70_3, hcz70_4, hcz70_5, hcz70_6, hcz70_7, hcz70_8, hcz70_9, hcz70_10⟩ := bC11 BK439.out; obtain ⟨hfz70_0, hfz70_1, hfz70_2, hfz70_3, hfz70_4, hfz70_5, hfz70_6, hfz70_7, hfz70_8, hfz70_9, hfz70_10⟩ := bF11 BK439.out; obtain ⟨Ao71, co71, eo71⟩ := Kd.R_slice HO424.out; subst eo71; obtain ⟨Ao72, co72, eo72⟩ := Kd.R_slice HO432.out; subst eo72; obtain ⟨Ao73, co73, eo73⟩ := Kd.R_slice HO437.out; subst eo73) | ((with_reducible refine gate_callee (f := 28) rfl ?_); refine goesL_ (some 24) rfl rfl Try.func28 (by kernel_rfl) rfl #[] rfl mS ?_; (with_reducible refine (foghornlaw17_alive.calls  true _ A57.out).mono ?_); rintro e w74 ⟨rfl, hb⟩; refine ⟨_, rfl, ?_⟩; have n0_ := aA (Kd.R_below (by (with_reducible repeat (first | apply Kd.R_alloc | apply Kd.R_drewN | apply Kd.R_drew)); exact (Kd.R_mono (rF 10 (rF 9 (rF 8 (rF 7 (rF 6 (rF 5 (rF 4 (rF 3 (rF 2 (rF 1 (rF 0 (Kd.R_types HO405.out BK439.out (by decide))))))))))))) (fun _ h_ => h_.1))) hb); have n1_ := aA (Kd.R_below (by (with_reducible repeat (first | apply Kd.R_alloc | apply Kd.R_drewN | apply Kd.R_drew)); exact (Kd.R_mono (rF 10 (rF 9 (rF 8 (rF 7 (rF 6 (rF 5 (rF 4 (rF 3 (rF 2 (rF 1 (rF 0 (Kd.R_types HO413.out BK439.out (by decide))))))))))))) (fun _ h_ => h_.1))) hb); have n2_ := aA (Kd.R_below (by (with_reducible repeat (first | apply Kd.R_alloc | apply Kd.R_drewN | apply Kd.R_drew)); exact (Kd.R_mono (rF 10 (rF 9 (rF 8 (rF 7 (rF 6 (rF 5 (rF 4 (rF 3 (rF 2 (rF 1 (rF 0 (Kd.R_types HO418.out BK439.out (by decide))))))))))))) (fun _ h_ => h_.1))) hb); have n3_ := aA (Kd.R_below (by (with_reducible repeat (first | apply Kd.R_alloc | apply Kd.R_drewN | apply Kd.R_drew)); exact (Kd.R_mono (rF 10 (rF 9 (rF 8 (rF 7 (rF 6 (rF 5 (rF 4 (rF 3 (rF 2 (rF 1 (rF 0 (Kd.R_types HO424.out BK439.out (by decide))))))))))))) (fun _ h_ => h_.1))) hb); have n4_ := aA (Kd.R_below (by (with_reducible repeat (first | apply Kd.R_alloc | apply Kd.R_drewN | apply Kd.R_drew)); exact (Kd.R_mono (rF 10 (rF 9 (rF 8 (rF 7 (rF 6 (rF 5 (rF 4 (rF 3 (rF 2 (rF 1 (rF 0 (Kd.R_types HO432.out BK439.out (by decide))))))))))))) (fun _ h_ => h_.1))) hb); have n5_ := aA (Kd.R_below (by (with_reducible repeat (first | apply Kd.R_alloc | apply Kd.R_drewN | apply Kd.R_drew)); exact (Kd.R_mono (rF 10 (rF 9 (rF 8 (rF 7 (rF 6 (rF 5 (rF 4 (rF 3 (rF 2 (rF 1 (rF 0 (Kd.R_types HO437.out BK439.out (by decide))))))))))))) (fun _ h_ => h_.1))) hb); have n6_ := aA (blk_below (g := gb420) (o := .cells #[.int .i64 t402, .slice Ao64 t403.length co64, .int .i64 t406, .int .i64 t407, .int .i64 t408, .int .i64 t409, .int .i64 t410, .slice Ao65 t411.length co65, .int .i64 t414, .int .i64 t415, .slice Ao66 t416.length co66] 50 (0, 0)) (by (with_reducible repeat (first | refine blk_drewN ?_ _ | refine blk_drew ?_ | refine blk_alloc ?_ _)); refine blk_far ?_ NB420_439.out _; (with_reducible repeat (first | refine blk_drewN ?_ _ | refine blk_drew ?_ | refine blk_alloc ?_ _)); refine blk_far ?_ NB420_439.out _; (with_reducible repeat (first | refine blk_drewN ?_ _ | refine blk_drew ?_ | refine blk_alloc ?_ _)); refine blk_far ?_ NB420_439.out _; (with_reducible repeat (first | refine blk_drewN ?_ _ | refine blk_drew ?_ | refine blk_alloc ?_ _)); refine blk_far ?_ NB420_439.out _; (with_reducible repeat (first | refine blk_drewN ?_ _ | refine blk_drew ?_ | refine blk_alloc ?_ _)); refine blk_far ?_ NB420_439.out _; (with_reducible repeat (first | refine blk_drewN ?_ _ | refine blk_drew ?_ | refine blk_alloc ?_ _)); refine blk_far ?_ NB420_439.out _; (with_reducible repeat (first | refine blk_drewN ?_ _ | refine blk_drew ?_ | refine blk_alloc ?_ _)); refine blk_far ?_ NB420_439.out _; (with_reducible repeat (first | refine blk_drewN ?_ _ | refine blk_drew ?_ | refine blk_alloc ?_ _)); refine blk_far ?_ NB420_439.out _; (with_reducible repeat (first | refine blk_drewN ?_ _ | refine blk_drew ?_ | refine blk_alloc ?_ _)); refine blk_far ?_ NB420_439.out _; (with_reducible repeat (first | refine blk_drewN ?_ _ | refine blk_drew ?_ | refine blk_alloc ?_ _)); refine blk_far ?_ NB420_439.out _; (with_reducible repeat (first | refine blk_drewN ?_ _ | refine blk_drew ?_ | refine blk_alloc ?_ _)); refine blk_far ?_ NB420_439.out _; (with_reducible repeat (first | refine blk_drewN ?_ _ | refine blk_drew ?_ | refine blk_alloc ?_ _)); exact BK420.out) hb); have n7_ := aA (blk_below (g := gb439) (o := .cells #[.int .i64 t421, .slice Ao71 t422.length co71, .int .i64 t425, .int .i64 t426, .int .i64 t427, .int .i64 t428, .int .i64 t429, .slice Ao72 t430.length co72, .int .i64 t433, .int .i64 t434, .slice Ao73 t435.length co73] 50 (0, 0)) (by (with_reducible repeat (first | refine blk_drewN ?_ _ | refine blk_drew ?_ | refine blk_alloc ?_ _)); have h_ := BK439.out; exact pK 10 (pK 9 (pK 8 (pK 7 (pK 6 (pK 5 (pK 4 (pK 3 (pK 2 (pK 1 (pK 0 (h_)))))))))))) hb); have n8_ := aA (below_step (mD2 GE420.out GE439.out) hb); clear HO405 HO413 HO418 HO424 HO432 HO437 BK420 BK439 HB; have HO405 := n0_; have HO413 := n1_; have HO418 := n2_; have HO424 := n3_; have HO432 := n4_; have HO437 := n5_; have BK420 := n6_; have BK439 := n7_; have HB := n8_; clear n0_ n1_ n2_ n3_ n4_ n5_ n6_ n7_ n8_; (try clear hb); (try clear hb2); (try clear hk); (try clear hi); obtain ⟨hcz75_0, hcz75_1, hcz75_2, hcz75_3, hcz75_4, hcz75_5, hcz75_6, hcz75_7, hcz75_8, hcz75_9, hcz75_10⟩ := bC11 BK420.out; obtain ⟨hfz75_0, hfz75_1, hfz75_2, hfz75_3, hfz75_4, hfz75_5, hfz75_6, hfz75_7, hfz75_8, hfz75_9, hfz75_10⟩ := bF11 BK420.out) | (go_at_call 32; (refine (foghornref17_Same.calls k t402 _ _ t403 t406 t407 t408 t409 t410 _ _ t411 t414 t415 _ _ t416 0 _ _ ([] : List (S41)) 0 0 0 0 0 _ _ ([] : List (S41)) 0 0 _ _ ([] : List (S35)) t443 _ ?side1 ?side2 ?side3 ?side4 ?side5 ?side6 ?side7 ?side8 ?side9 ?side10 ?side11 ?side12 A60.out).mono ?_); (case side1 => exact mC ((Kd.R_reads' HO405.out).2.2)); (case side2 => exact (Kd.R_reads' HO405.out).2.1); (case side3 => exact mC ((Kd.R_reads' HO413.out).2.2)); (case side4 => exact (Kd.R_reads' HO413.out).2.1); (case side5 => exact mC ((Kd.R_reads' HO418.out).2.2)); (case side6 => exact (Kd.R_reads' HO418.out).2.1); (case side7 => exact Kd.C_nil _ _); (case side8 => exact Nat.le_refl _); (case side9 => exact Kd.C_nil _ _); (case side10 => exact Nat.le_refl _); (case side11 => exact Kd.C_nil _ _); (case side12 => exact Nat.le_refl _); rintro e w76 ⟨rfl, hb⟩; have n0_ := aA (Kd.R_below (mR HO405.out) hb); have n1_ := aA (Kd.R_below (mR HO413.out) hb); have n2_ := aA (Kd.R_below (mR HO418.out) hb); have n3_ := aA (Kd.R_below (mR HO424.out) hb); have n4_ := aA (Kd.R_below (mR HO432.out) hb); have n5_ := aA (Kd.R_below (mR HO437.out) hb); have n6_ := aA (bB BK420.out hb); have n7_ := aA (bB BK439.out hb); have n8_ := aA (below_step (mD2 GE420.out GE439.out) hb); clear HO405 HO413 HO418 HO424 HO432 HO437 BK420 BK439 HB; have HO405 := n0_; have HO413 := n1_; have HO418 := n2_; have HO424 := n3_; have HO432 := n4_; have HO437 := n5_; have BK420 := n6_; have BK439 := n7_; have HB := n8_; clear n0_ n1_ n2_ n3_ n4_ n5_ n6_ n7_ n8_; (try clear hb); (try clear hb2); (try clear hk); (try clear hi)))
      go_ret
      exact ⟨by first | rfl | (simp [errW_none, errW_some] <;> rfl) | (simp only [← hji2]; first | rfl | (simp [errW_none, errW_some] <;> rfl)) | (simp [*, errW_none, errW_some] <;> rfl), by repeat (first | (with_reducible first | exact HB.out | apply below_alloc | apply pw_below_drewN | apply below_drew1 | refine below_set ?_ GE420.out | refine below_set ?_ GE439.out) | exact HB.out)⟩
     ·rw [if_neg c59] at H
      have c59b0 : (t419 == 13) = false := beq_eq_false_iff_ne.mpr c59
      have c59b1 : (t419 != 13) = true := bne_iff_ne.mpr c59
      obtain rfl := Option.some.inj H
      go_enter Try.func7, Try.ntmps7
      go_wp2_with (first | ((with_reducible refine gate_callee (f := 30) rfl ?_); refine goesL_ (some 14) rfl rfl Try.func30 (by kernel_rfl) rfl #[.string (a0.extract 0 ((ji2) : Int).toNat)] rfl (by (try simp only [List.map_toArray, List.map_cons, List.map_nil]); first | done | (simp only [hji2]; rfl) | rfl | (simp only [List.length_drop, List.length_take]; rfl)) ?_; (with_reducible refine (code_Get.calls (a0.extract 0 ((ji2) : Int).toNat) t402 t403 t406 t407 t408 t409 t410 t411 t414 t415 t416 t419 _ A5.out).mono ?_); rintro e w77 ⟨v404, v412, v417, rfl, ho0, ho1, ho2, hb⟩; refine ⟨_, rfl, ?_⟩; have n0_ := aA (Kd.R_lower ho0 (below_size mB)); have n1_ := aA (Kd.R_lower ho1 (below_size mB)); have n2_ := aA (Kd.R_lower ho2 (below_size mB)); have n3_ := aA (below_step mB hb); clear HB; have HO405 := n0_; have HO413 := n1_; have HO418 := n2_; have HB := n3_; clear n0_ n1_ n2_ n3_; (try clear hb); (try clear hb2); (try clear hk); (try clear hi); (try clear ho0); (try clear ho1); (try clear ho2)) | ((with_reducible refine gate_dst (N := 3) rfl ?_); refine box_event ?hg (N := 3) ?hd (cs := #[.int .i64 0, .slice none 0 0, .int .i64 0, .int .i64 0, .int .i64 0, .int .i64 0, .int .i64 0, .slice none 0 0, .int .i64 0, .int .i64 0, .slice none 0 0]) (t := 50) ?hr ?_; (case hd => rfl); (case hg => rfl); (case hr => first | (go_simp; done) | (go_simp; rfl)); intro gb420 hg w78 hbox hb; have n0_ := aA (Kd.R_below (mR HO405.out) hb); have n1_ := aA (Kd.R_below (mR HO413.out) hb); have n2_ := aA (Kd.R_below (mR HO418.out) hb); have n3_ := aA (below_step mB hb); have n4_ := aA (hbox); have n5_ := aA ((bZ hg mB)); have n6_ := aA ((bZ hg mB)); clear HO405 HO413 HO418 HB; have HO405 := n0_; have HO413 := n1_; have HO418 := n2_; have HB := n3_; have BK420 := n4_; have GW420 := n5_; have GE420 := n6_; clear n0_ n1_ n2_ n3_ n4_ n5_ n6_ hb hbox hg; obtain ⟨hcz79_0, hcz79_1, hcz79_2, hcz79_3, hcz79_4, hcz79_5, hcz79_6, hcz79_7, hcz79_8, hcz79_9, hcz79_10⟩ := bC11 BK420.out; obtain ⟨hfz79_0, hfz79_1, hfz79_2, hfz79_3, hfz79_4, hfz79_5, hfz79_6, hfz79_7, hfz79_8, hfz79_9, hfz79_10⟩ := bF11 BK420.out; obtain ⟨Ao80, co80, eo80⟩ := Kd.R_slice HO405.out; subst eo80; obtain ⟨Ao81, co81, eo81⟩ := Kd.R_slice HO413.out; subst eo81; obtain ⟨Ao82, co82, eo82⟩ := Kd.R_slice HO418.out; subst eo82) | ((with_reducible refine gate_callee (f := 31) rfl ?_); refine goesL_ (some 19) rfl rfl Try.func31 (by kernel_rfl) rfl #[.string (a0.extract 0 ((ji2) : Int).toNat)] rfl (by (try simp only [List.map_toArray, List.map_cons, List.map_nil]); first | done | (simp only [hji2]; rfl) | rfl | (simp only [List.length_drop, List.length_take]; rfl)) ?_; (with_reducible refine (foghornref17_Get.calls k (a0.extract 0 ((ji2) : Int).toNat) t421 t422 t425 t426 t427 t428 t429 t430 t433 t434 t435 false _ A6.out).mono ?_); rintro e w83 ⟨v423, v431, v436, rfl, ho0, ho1, ho2, hb⟩; refine ⟨_, rfl, ?_⟩; have n0_ := aA (Kd.R_mono (Kd.R_told (Kd.R_told (Kd.R_old (by (with_reducible repeat (first | apply Kd.R_alloc | apply Kd.R_drewN | apply Kd.R_drew)); exact (Kd.R_mono (rF 10 (rF 9 (rF 8 (rF 7 (rF 6 (rF 5 (rF 4 (rF 3 (rF 2 (rF 1 (rF 0 (Kd.R_types HO405.out BK420.out (by decide))))))))))))) (fun _ h_ => h_.1))) hb) (Kd.R_base ho0)) (Kd.R_base ho1)) (fun _ h_ => h_.1)); have n1_ := aA (Kd.R_mono (Kd.R_told (Kd.R_told (Kd.R_old (by (with_reducible repeat (first | apply Kd.R_alloc | apply Kd.R_drewN | apply Kd.R_drew)); exact (Kd.R_mono (rF 10 (rF 9 (rF 8 (rF 7 (rF 6 (rF 5 (rF 4 (rF 3 (rF 2 (rF 1 (rF 0 (Kd.R_types HO413.out BK420.out (by decide))))))))))))) (fun _ h_ => h_.1))) hb) (Kd.R_base ho0)) (Kd.R_base ho1)) (fun _ h_ => h_.1)); have n2_ := aA (Kd.R_elder' (by (with_reducible repeat (first | apply Kd.R_alloc | apply Kd.R_drewN | apply Kd.R_drew)); exact (Kd.R_mono (rF 10 (rF 9 (rF 8 (rF 7 (rF 6 (rF 5 (rF 4 (rF 3 (rF 2 (rF 1 (rF 0 (Kd.R_types HO418.out BK420.out (by decide))))))))))))) (fun _ h_ => h_.1))) (Kd.R_base ho2) hb); have n3_ := aA (Kd.R_lower (Kd.R_new' (Kd.R_new' ho0 (Kd.R_lt (by (with_reducible repeat (first | apply Kd.R_alloc | apply Kd.R_drewN | apply Kd.R_drew)); exact (Kd.R_mono (rF 10 (rF 9 (rF 8 (rF 7 (rF 6 (rF 5 (rF 4 (rF 3 (rF 2 (rF 1 (rF 0 (Kd.R_types HO405.out BK420.out (by decide))))))))))))) (fun _ h_ => h_.1))))) (Kd.R_lt (by (with_reducible repeat (first | apply Kd.R_alloc | apply Kd.R_drewN | apply Kd.R_drew)); exact (Kd.R_mono (rF 10 (rF 9 (rF 8 (rF 7 (rF 6 (rF 5 (rF 4 (rF 3 (rF 2 (rF 1 (rF 0 (Kd.R_types HO413.out BK420.out (by decide))))))))))))) (fun _ h_ => h_.1))))) (below_size (mD1 GE420.out))); have n4_ := aA (Kd.R_lower (Kd.R_new' (Kd.R_new' ho1 (Kd.R_lt (by (with_reducible repeat (first | apply Kd.R_alloc | apply Kd.R_drewN | apply Kd.R_drew)); exact (Kd.R_mono (rF 10 (rF 9 (rF 8 (rF 7 (rF 6 (rF 5 (rF 4 (rF 3 (rF 2 (rF 1 (rF 0 (Kd.R_types HO405.out BK420.out (by decide))))))))))))) (fun _ h_ => h_.1))))) (Kd.R_lt (by (with_reducible repeat (first | apply Kd.R_alloc | apply Kd.R_drewN | apply Kd.R_drew)); exact (Kd.R_mono (rF 10 (rF 9 (rF 8 (rF 7 (rF 6 (rF 5 (rF 4 (rF 3 (rF 2 (rF 1 (rF 0 (Kd.R_types HO413.out BK420.out (by decide))))))))))))) (fun _ h_ => h_.1))))) (below_size (mD1 GE420.out))); have n5_ := aA (Kd.R_lower (Kd.R_new' ho2 (Kd.R_lt (by (with_reducible repeat (first | apply Kd.R_alloc | apply Kd.R_drewN | apply Kd.R_drew)); exact (Kd.R_mono (rF 10 (rF 9 (rF 8 (rF 7 (rF 6 (rF 5 (rF 4 (rF 3 (rF 2 (rF 1 (rF 0 (Kd.R_types HO418.out BK420.out (by decide))))))))))))) (fun _ h_ => h_.1))))) (below_size (mD1 GE420.out))); have n6_ := aA (blk_below (g := gb420) (o := .cells #[.int .i64 t402, .slice Ao80 t403.length co80, .int .i64 t406, .int .i64 t407, .int .i64 t408, .int .i64 t409, .int .i64 t410, .slice Ao81 t411.length co81, .int .i64 t414, .int .i64 t415, .slice Ao82 t416.length co82] 50 (0, 0)) (by (with_reducible repeat (first | refine blk_drewN ?_ _ | refine blk_drew ?_ | refine blk_alloc ?_ _)); have h_ := BK420.out; exact pK 10 (pK 9 (pK 8 (pK 7 (pK 6 (pK 5 (pK 4 (pK 3 (pK 2 (pK 1 (pK 0 (h_)))))))))))) hb); have n7_ := aA (below_step (mD1 GE420.out) hb); clear HO405 HO413 HO418 BK420 HB; have HO405 := n0_; have HO413 := n1_; have HO418 := n2_; have HO424 := n3_; have HO432 := n4_; have HO437 := n5_; have BK420 := n6_; have HB := n7_; clear n0_ n1_ n2_ n3_ n4_ n5_ n6_ n7_; (try clear hb); (try clear hb2); (try clear hk); (try clear hi); (try clear ho0); (try clear ho1); (try clear ho2)) | ((with_reducible refine gate_dst (N := 5) rfl ?_); refine box_event ?hg (N := 5) ?hd (cs := #[.int .i64 0, .slice none 0 0, .int .i64 0, .int .i64 0, .int .i64 0, .int .i64 0, .int .i64 0, .slice none 0 0, .int .i64 0, .int .i64 0, .slice none 0 0]) (t := 50) ?hr ?_; (case hd => rfl); (case hg => rfl); (case hr => first | (go_simp; done) | (go_simp; rfl)); intro gb439 hg w84 hbox hb; have n0_ := aA (Kd.R_below (mR HO405.out) hb); have n1_ := aA (Kd.R_below (mR HO413.out) hb); have n2_ := aA (Kd.R_below (mR HO418.out) hb); have n3_ := aA (Kd.R_below (mR HO424.out) hb); have n4_ := aA (Kd.R_below (mR HO432.out) hb); have n5_ := aA (Kd.R_below (mR HO437.out) hb); have n6_ := aA (bB BK420.out hb); have n7_ := aA (below_step (mD1 GE420.out) hb); have n8_ := aA (hbox); have n9_ := aA ((bZ hg (mD1 GE420.out))); have n10_ := aA ((bZ hg (mD1 GE420.out))); have n11_ := aA ((bL hg BK420.out)); have n12_ := aA ((bG hg BK420.out)); clear HO405 HO413 HO418 HO424 HO432 HO437 BK420 HB; have HO405 := n0_; have HO413 := n1_; have HO418 := n2_; have HO424 := n3_; have HO432 := n4_; have HO437 := n5_; have BK420 := n6_; have HB := n7_; have BK439 := n8_; have GW439 := n9_; have GE439 := n10_; have NB420_439 := n11_; have NB439_420 := n12_; clear n0_ n1_ n2_ n3_ n4_ n5_ n6_ n7_ n8_ n9_ n10_ n11_ n12_ hb hbox hg; have hnb85 := NB439_420.out; have hnc85 := NB420_439.out; obtain ⟨hcz86_0, hcz86_1, hcz86_2, hcz86_3, hcz86_4, hcz86_5, hcz86_6, hcz86_7, hcz86_8, hcz86_9, hcz86_10⟩ := bC11 BK439.out; obtain ⟨hfz86_0, hfz86_1, hfz86_2, hfz86_3, hfz86_4, hfz86_5, hfz86_6, hfz86_7, hfz86_8, hfz86_9, hfz86_10⟩ := bF11 BK439.out; obtain ⟨Ao87, co87, eo87⟩ := Kd.R_slice HO424.out; subst eo87; obtain ⟨Ao88, co88, eo88⟩ := Kd.R_slice HO432.out; subst eo88; obtain ⟨Ao89, co89, eo89⟩ := Kd.R_slice HO437.out; subst eo89) | ((with_reducible refine gate_callee (f := 28) rfl ?_); refine goesL_ (some 24) rfl rfl Try.func28 (by kernel_rfl) rfl #[] rfl mS ?_; (with_reducible refine (foghornlaw17_alive.calls  true _ A57.out).mono ?_); rintro e w90 ⟨rfl, hb⟩; refine ⟨_, rfl, ?_⟩; have n0_ := aA (Kd.R_below (by (with_reducible repeat (first | apply Kd.R_alloc | apply Kd.R_drewN | apply Kd.R_drew)); exact (Kd.R_mono (rF 10 (rF 9 (rF 8 (rF 7 (rF 6 (rF 5 (rF 4 (rF 3 (rF 2 (rF 1 (rF 0 (Kd.R_types HO405.out BK439.out (by decide))))))))))))) (fun _ h_ => h_.1))) hb); have n1_ := aA (Kd.R_below (by (with_reducible repeat (first | apply Kd.R_alloc | apply Kd.R_drewN | apply Kd.R_drew)); exact (Kd.R_mono (rF 10 (rF 9 (rF 8 (rF 7 (rF 6 (rF 5 (rF 4 (rF 3 (rF 2 (rF 1 (rF 0 (Kd.R_types HO413.out BK439.out (by decide))))))))))))) (fun _ h_ => h_.1))) hb); have n2_ := aA (Kd.R_below (by (with_reducible repeat (first | apply Kd.R_alloc | apply Kd.R_drewN | apply Kd.R_drew)); exact (Kd.R_mono (rF 10 (rF 9 (rF 8 (rF 7 (rF 6 (rF 5 (rF 4 (rF 3 (rF 2 (rF 1 (rF 0 (Kd.R_types HO418.out BK439.out (by decide))))))))))))) (fun _ h_ => h_.1))) hb); have n3_ := aA (Kd.R_below (by (with_reducible repeat (first | apply Kd.R_alloc | apply Kd.R_drewN | apply Kd.R_drew)); exact (Kd.R_mono (rF 10 (rF 9 (rF 8 (rF 7 (rF 6 (rF 5 (rF 4 (rF 3 (rF 2 (rF 1 (rF 0 (Kd.R_types HO424.out BK439.out (by decide))))))))))))) (fun _ h_ => h_.1))) hb); have n4_ := aA (Kd.R_below (by (with_reducible repeat (first | apply Kd.R_alloc | apply Kd.R_drewN | apply Kd.R_drew)); exact (Kd.R_mono (rF 10 (rF 9 (rF 8 (rF 7 (rF 6 (rF 5 (rF 4 (rF 3 (rF 2 (rF 1 (rF 0 (Kd.R_types HO432.out BK439.out (by decide))))))))))))) (fun _ h_ => h_.1))) hb); have n5_ := aA (Kd.R_below (by (with_reducible repeat (first | apply Kd.R_alloc | apply Kd.R_drewN | apply Kd.R_drew)); exact (Kd.R_mono (rF 10 (rF 9 (rF 8 (rF 7 (rF 6 (rF 5 (rF 4 (rF 3 (rF 2 (rF 1 (rF 0 (Kd.R_types HO437.out BK439.out (by decide))))))))))))) (fun _ h_ => h_.1))) hb); have n6_ := aA (blk_below (g := gb420) (o := .cells #[.int .i64 t402, .slice Ao80 t403.length co80, .int .i64 t406, .int .i64 t407, .int .i64 t408, .int .i64 t409, .int .i64 t410, .slice Ao81 t411.length co81, .int .i64 t414, .int .i64 t415, .slice Ao82 t416.length co82] 50 (0, 0)) (by (with_reducible repeat (first | refine blk_drewN ?_ _ | refine blk_drew ?_ | refine blk_alloc ?_ _)); refine blk_far ?_ NB420_439.out _; (with_reducible repeat (first | refine blk_drewN ?_ _ | refine blk_drew ?_ | refine blk_alloc ?_ _)); refine blk_far ?_ NB420_439.out _; (with_reducible repeat (first | refine blk_drewN ?_ _ | refine blk_drew ?_ | refine blk_alloc ?_ _)); refine blk_far ?_ NB420_439.out _; (with_reducible repeat (first | refine blk_drewN ?_ _ | refine blk_drew ?_ | refine blk_alloc ?_ _)); refine blk_far ?_ NB420_439.out _; (with_reducible repeat (first | refine blk_drewN ?_ _ | refine blk_drew ?_ | refine blk_alloc ?_ _)); refine blk_far ?_ NB420_439.out _; (with_reducible repeat (first | refine blk_drewN ?_ _ | refine blk_drew ?_ | refine blk_alloc ?_ _)); refine blk_far ?_ NB420_439.out _; (with_reducible repeat (first | refine blk_drewN ?_ _ | refine blk_drew ?_ | refine blk_alloc ?_ _)); refine blk_far ?_ NB420_439.out _; (with_reducible repeat (first | refine blk_drewN ?_ _ | refine blk_drew ?_ | refine blk_alloc ?_ _)); refine blk_far ?_ NB420_439.out _; (with_reducible repeat (first | refine blk_drewN ?_ _ | refine blk_drew ?_ | refine blk_alloc ?_ _)); refine blk_far ?_ NB420_439.out _; (with_reducible repeat (first | refine blk_drewN ?_ _ | refine blk_drew ?_ | refine blk_alloc ?_ _)); refine blk_far ?_ NB420_439.out _; (with_reducible repeat (first | refine blk_drewN ?_ _ | refine blk_drew ?_ | refine blk_alloc ?_ _)); refine blk_far ?_ NB420_439.out _; (with_reducible repeat (first | refine blk_drewN ?_ _ | refine blk_drew ?_ | refine blk_alloc ?_ _)); exact BK420.out) hb); have n7_ := aA (blk_below (g := gb439) (o := .cells #[.int .i64 t421, .slice Ao87 t422.length co87, .int .i64 t425, .int .i64 t426, .int .i64 t427, .int .i64 t428, .int .i64 t429, .slice Ao88 t430.length co88, .int .i64 t433, .int .i64 t434, .slice Ao89 t435.length co89] 50 (0, 0)) (by (with_reducible repeat (first | refine blk_drewN ?_ _ | refine blk_drew ?_ | refine blk_alloc ?_ _)); have h_ := BK439.out; exact pK 10 (pK 9 (pK 8 (pK 7 (pK 6 (pK 5 (pK 4 (pK 3 (pK 2 (pK 1 (pK 0 (h_)))))))))))) hb); have n8_ := aA (below_step (mD2 GE420.out GE439.out) hb); clear HO405 HO413 HO418 HO424 HO432 HO437 BK420 BK439 HB; have HO405 := n0_; have HO413 := n1_; have HO418 := n2_; have HO424 := n3_; have HO432 := n4_; have HO437 := n5_; have BK420 := n6_; have BK439 := n7_; have HB := n8_; clear n0_ n1_ n2_ n3_ n4_ n5_ n6_ n7_ n8_; (try clear hb); (try clear hb2); (try clear hk); (try clear hi)))
      go_ret
      exact ⟨by first | rfl | (simp [errW_none, errW_some] <;> rfl) | (simp only [← hji2]; first | rfl | (simp [errW_none, errW_some] <;> rfl)) | (simp [*, errW_none, errW_some] <;> rfl), by repeat (first | (with_reducible first | exact HB.out | apply below_alloc | apply pw_below_drewN | apply below_drew1 | refine below_set ?_ GE420.out | refine below_set ?_ GE439.out) | exact HB.out)⟩
    ·replace c58 := Bool.eq_false_iff.mpr c58
     subst c58
     have H1 : (some false) = some r := by rw [if_neg (show ¬ (false = true) by decide)] at H; exact H
     clear H
     have H := H1
     clear H1
     obtain rfl := Option.some.inj H
     go_enter Try.func7, Try.ntmps7
     go_wp2_with (first | ((with_reducible refine gate_callee (f := 30) rfl ?_); refine goesL_ (some 14) rfl rfl Try.func30 (by kernel_rfl) rfl #[.string (a0.extract 0 ((ji2) : Int).toNat)] rfl (by (try simp only [List.map_toArray, List.map_cons, List.map_nil]); first | done | (simp only [hji2]; rfl) | rfl | (simp only [List.length_drop, List.length_take]; rfl)) ?_; (with_reducible refine (code_Get.calls (a0.extract 0 ((ji2) : Int).toNat) t402 t403 t406 t407 t408 t409 t410 t411 t414 t415 t416 t419 _ A5.out).mono ?_); rintro e w91 ⟨v404, v412, v417, rfl, ho0, ho1, ho2, hb⟩; refine ⟨_, rfl, ?_⟩; have n0_ := aA (Kd.R_lower ho0 (below_size mB)); have n1_ := aA (Kd.R_lower ho1 (below_size mB)); have n2_ := aA (Kd.R_lower ho2 (below_size mB)); have n3_ := aA (below_step mB hb); clear HB; have HO405 := n0_; have HO413 := n1_; have HO418 := n2_; have HB := n3_; clear n0_ n1_ n2_ n3_; (try clear hb); (try clear hb2); (try clear hk); (try clear hi); (try clear ho0); (try clear ho1); (try clear ho2)) | ((with_reducible refine gate_dst (N := 3) rfl ?_); refine box_event ?hg (N := 3) ?hd (cs := #[.int .i64 0, .slice none 0 0, .int .i64 0, .int .i64 0, .int .i64 0, .int .i64 0, .int .i64 0, .slice none 0 0, .int .i64 0, .int .i64 0, .slice none 0 0]) (t := 50) ?hr ?_; (case hd => rfl); (case hg => rfl); (case hr => first | (go_simp; done) | (go_simp; rfl)); intro gb420 hg w92 hbox hb; have n0_ := aA (Kd.R_below (mR HO405.out) hb); have n1_ := aA (Kd.R_below (mR HO413.out) hb); have n2_ := aA (Kd.R_below (mR HO418.out) hb); have n3_ := aA (below_step mB hb); have n4_ := aA (hbox); have n5_ := aA ((bZ hg mB)); have n6_ := aA ((bZ hg mB)); clear HO405 HO413 HO418 HB; have HO405 := n0_; have HO413 := n1_; have HO418 := n2_; have HB := n3_; have BK420 := n4_; have GW420 := n5_; have GE420 := n6_; clear n0_ n1_ n2_ n3_ n4_ n5_ n6_ hb hbox hg; obtain ⟨hcz93_0, hcz93_1, hcz93_2, hcz93_3, hcz93_4, hcz93_5, hcz93_6, hcz93_7, hcz93_8, hcz93_9, hcz93_10⟩ := bC11 BK420.out; obtain ⟨hfz93_0, hfz93_1, hfz93_2, hfz93_3, hfz93_4, hfz93_5, hfz93_6, hfz93_7, hfz93_8, hfz93_9, hfz93_10⟩ := bF11 BK420.out; obtain ⟨Ao94, co94, eo94⟩ := Kd.R_slice HO405.out; subst eo94; obtain ⟨Ao95, co95, eo95⟩ := Kd.R_slice HO413.out; subst eo95; obtain ⟨Ao96, co96, eo96⟩ := Kd.R_slice HO418.out; subst eo96) | ((with_reducible refine gate_callee (f := 31) rfl ?_); refine goesL_ (some 19) rfl rfl Try.func31 (by kernel_rfl) rfl #[.string (a0.extract 0 ((ji2) : Int).toNat)] rfl (by (try simp only [List.map_toArray, List.map_cons, List.map_nil]); first | done | (simp only [hji2]; rfl) | rfl | (simp only [List.length_drop, List.length_take]; rfl)) ?_; (with_reducible refine (foghornref17_Get.calls k (a0.extract 0 ((ji2) : Int).toNat) t421 t422 t425 t426 t427 t428 t429 t430 t433 t434 t435 false _ A6.out).mono ?_); rintro e w97 ⟨v423, v431, v436, rfl, ho0, ho1, ho2, hb⟩; refine ⟨_, rfl, ?_⟩; have n0_ := aA (Kd.R_mono (Kd.R_told (Kd.R_told (Kd.R_old (by (with_reducible repeat (first | apply Kd.R_alloc | apply Kd.R_drewN | apply Kd.R_drew)); exact (Kd.R_mono (rF 10 (rF 9 (rF 8 (rF 7 (rF 6 (rF 5 (rF 4 (rF 3 (rF 2 (rF 1 (rF 0 (Kd.R_types HO405.out BK420.out (by decide))))))))))))) (fun _ h_ => h_.1))) hb) (Kd.R_base ho0)) (Kd.R_base ho1)) (fun _ h_ => h_.1)); have n1_ := aA (Kd.R_mono (Kd.R_told (Kd.R_told (Kd.R_old (by (with_reducible repeat (first | apply Kd.R_alloc | apply Kd.R_drewN | apply Kd.R_drew)); exact (Kd.R_mono (rF 10 (rF 9 (rF 8 (rF 7 (rF 6 (rF 5 (rF 4 (rF 3 (rF 2 (rF 1 (rF 0 (Kd.R_types HO413.out BK420.out (by decide))))))))))))) (fun _ h_ => h_.1))) hb) (Kd.R_base ho0)) (Kd.R_base ho1)) (fun _ h_ => h_.1)); have n2_ := aA (Kd.R_elder' (by (with_reducible repeat (first | apply Kd.R_alloc | apply Kd.R_drewN | apply Kd.R_drew)); exact (Kd.R_mono (rF 10 (rF 9 (rF 8 (rF 7 (rF 6 (rF 5 (rF 4 (rF 3 (rF 2 (rF 1 (rF 0 (Kd.R_types HO418.out BK420.out (by decide))))))))))))) (fun _ h_ => h_.1))) (Kd.R_base ho2) hb); have n3_ := aA (Kd.R_lower (Kd.R_new' (Kd.R_new' ho0 (Kd.R_lt (by (with_reducible repeat (first | apply Kd.R_alloc | apply Kd.R_drewN | apply Kd.R_drew)); exact (Kd.R_mono (rF 10 (rF 9 (rF 8 (rF 7 (rF 6 (rF 5 (rF 4 (rF 3 (rF 2 (rF 1 (rF 0 (Kd.R_types HO405.out BK420.out (by decide))))))))))))) (fun _ h_ => h_.1))))) (Kd.R_lt (by (with_reducible repeat (first | apply Kd.R_alloc | apply Kd.R_drewN | apply Kd.R_drew)); exact (Kd.R_mono (rF 10 (rF 9 (rF 8 (rF 7 (rF 6 (rF 5 (rF 4 (rF 3 (rF 2 (rF 1 (rF 0 (Kd.R_types HO413.out BK420.out (by decide))))))))))))) (fun _ h_ => h_.1))))) (below_size (mD1 GE420.out))); have n4_ := aA (Kd.R_lower (Kd.R_new' (Kd.R_new' ho1 (Kd.R_lt (by (with_reducible repeat (first | apply Kd.R_alloc | apply Kd.R_drewN | apply Kd.R_drew)); exact (Kd.R_mono (rF 10 (rF 9 (rF 8 (rF 7 (rF 6 (rF 5 (rF 4 (rF 3 (rF 2 (rF 1 (rF 0 (Kd.R_types HO405.out BK420.out (by decide))))))))))))) (fun _ h_ => h_.1))))) (Kd.R_lt (by (with_reducible repeat (first | apply Kd.R_alloc | apply Kd.R_drewN | apply Kd.R_drew)); exact (Kd.R_mono (rF 10 (rF 9 (rF 8 (rF 7 (rF 6 (rF 5 (rF 4 (rF 3 (rF 2 (rF 1 (rF 0 (Kd.R_types HO413.out BK420.out (by decide))))))))))))) (fun _ h_ => h_.1))))) (below_size (mD1 GE420.out))); have n5_ := aA (Kd.R_lower (Kd.R_new' ho2 (Kd.R_lt (by (with_reducible repeat (first | apply Kd.R_alloc | apply Kd.R_drewN | apply Kd.R_drew)); exact (Kd.R_mono (rF 10 (rF 9 (rF 8 (rF 7 (rF 6 (rF 5 (rF 4 (rF 3 (rF 2 (rF 1 (rF 0 (Kd.R_types HO418.out BK420.out (by decide))))))))))))) (fun _ h_ => h_.1))))) (below_size (mD1 GE420.out))); have n6_ := aA (blk_below (g := gb420) (o := .cells #[.int .i64 t402, .slice Ao94 t403.length co94, .int .i64 t406, .int .i64 t407, .int .i64 t408, .int .i64 t409, .int .i64 t410, .slice Ao95 t411.length co95, .int .i64 t414, .int .i64 t415, .slice Ao96 t416.length co96] 50 (0, 0)) (by (with_reducible repeat (first | refine blk_drewN ?_ _ | refine blk_drew ?_ | refine blk_alloc ?_ _)); have h_ := BK420.out; exact pK 10 (pK 9 (pK 8 (pK 7 (pK 6 (pK 5 (pK 4 (pK 3 (pK 2 (pK 1 (pK 0 (h_)))))))))))) hb); have n7_ := aA (below_step (mD1 GE420.out) hb); clear HO405 HO413 HO418 BK420 HB; have HO405 := n0_; have HO413 := n1_; have HO418 := n2_; have HO424 := n3_; have HO432 := n4_; have HO437 := n5_; have BK420 := n6_; have HB := n7_; clear n0_ n1_ n2_ n3_ n4_ n5_ n6_ n7_; (try clear hb); (try clear hb2); (try clear hk); (try clear hi); (try clear ho0); (try clear ho1); (try clear ho2)) | ((with_reducible refine gate_dst (N := 5) rfl ?_); refine box_event ?hg (N := 5) ?hd (cs := #[.int .i64 0, .slice none 0 0, .int .i64 0, .int .i64 0, .int .i64 0, .int .i64 0, .int .i64 0, .slice none 0 0, .int .i64 0, .int .i64 0, .slice none 0 0]) (t := 50) ?hr ?_; (case hd => rfl); (case hg => rfl); (case hr => first | (go_simp; done) | (go_simp; rfl)); intro gb439 hg w98 hbox hb; have n0_ := aA (Kd.R_below (mR HO405.out) hb); have n1_ := aA (Kd.R_below (mR HO413.out) hb); have n2_ := aA (Kd.R_below (mR HO418.out) hb); have n3_ := aA (Kd.R_below (mR HO424.out) hb); have n4_ := aA (Kd.R_below (mR HO432.out) hb); have n5_ := aA (Kd.R_below (mR HO437.out) hb); have n6_ := aA (bB BK420.out hb); have n7_ := aA (below_step (mD1 GE420.out) hb); have n8_ := aA (hbox); have n9_ := aA ((bZ hg (mD1 GE420.out))); have n10_ := aA ((bZ hg (mD1 GE420.out))); have n11_ := aA ((bL hg BK420.out)); have n12_ := aA ((bG hg BK420.out)); clear HO405 HO413 HO418 HO424 HO432 HO437 BK420 HB; have HO405 := n0_; have HO413 := n1_; have HO418 := n2_; have HO424 := n3_; have HO432 := n4_; have HO437 := n5_; have BK420 := n6_; have HB := n7_; have BK439 := n8_; have GW439 := n9_; have GE439 := n10_; have NB420_439 := n11_; have NB439_420 := n12_; clear n0_ n1_ n2_ n3_ n4_ n5_ n6_ n7_ n8_ n9_ n10_ n11_ n12_ hb hbox hg; have hnb99 := NB439_420.out; have hnc99 := NB420_439.out; obtain ⟨hcz100_0, hcz100_1, hcz100_2, hcz100_3, hcz100_4, hcz100_5, hcz100_6, hcz100_7, hcz100_8, hcz100_9, hcz100_10⟩ := bC11 BK439.out; obtain ⟨hfz100_0, hfz100_1, hfz100_2, hfz100_3, hfz100_4, hfz100_5, hfz100_6, hfz100_7, hfz100_8, hfz100_9, hfz100_10⟩ := bF11 BK439.out; obtain ⟨Ao101, co101, eo101⟩ := Kd.R_slice HO424.out; subst eo101; obtain ⟨Ao102, co102, eo102⟩ := Kd.R_slice HO432.out; subst eo102; obtain ⟨Ao103, co103, eo103⟩ := Kd.R_slice HO437.out; subst eo103) | ((with_reducible refine gate_callee (f := 28) rfl ?_); refine goesL_ (some 24) rfl rfl Try.func28 (by kernel_rfl) rfl #[] rfl mS ?_; (with_reducible refine (foghornlaw17_alive.calls  false _ A57.out).mono ?_); rintro e w104 ⟨rfl, hb⟩; refine ⟨_, rfl, ?_⟩; have n0_ := aA (Kd.R_below (by (with_reducible repeat (first | apply Kd.R_alloc | apply Kd.R_drewN | apply Kd.R_drew)); exact (Kd.R_mono (rF 10 (rF 9 (rF 8 (rF 7 (rF 6 (rF 5 (rF 4 (rF 3 (rF 2 (rF 1 (rF 0 (Kd.R_types HO405.out BK439.out (by decide))))))))))))) (fun _ h_ => h_.1))) hb); have n1_ := aA (Kd.R_below (by (with_reducible repeat (first | apply Kd.R_alloc | apply Kd.R_drewN | apply Kd.R_drew)); exact (Kd.R_mono (rF 10 (rF 9 (rF 8 (rF 7 (rF 6 (rF 5 (rF 4 (rF 3 (rF 2 (rF 1 (rF 0 (Kd.R_types HO413.out BK439.out (by decide))))))))))))) (fun _ h_ => h_.1))) hb); have n2_ := aA (Kd.R_below (by (with_reducible repeat (first | apply Kd.R_alloc | apply Kd.R_drewN | apply Kd.R_drew)); exact (Kd.R_mono (rF 10 (rF 9 (rF 8 (rF 7 (rF 6 (rF 5 (rF 4 (rF 3 (rF 2 (rF 1 (rF 0 (Kd.R_types HO418.out BK439.out (by decide))))))))))))) (fun _ h_ => h_.1))) hb); have n3_ := aA (Kd.R_below (by (with_reducible repeat (first | apply Kd.R_alloc | apply Kd.R_drewN | apply Kd.R_drew)); exact (Kd.R_mono (rF 10 (rF 9 (rF 8 (rF 7 (rF 6 (rF 5 (rF 4 (rF 3 (rF 2 (rF 1 (rF 0 (Kd.R_types HO424.out BK439.out (by decide))))))))))))) (fun _ h_ => h_.1))) hb); have n4_ := aA (Kd.R_below (by (with_reducible repeat (first | apply Kd.R_alloc | apply Kd.R_drewN | apply Kd.R_drew)); exact (Kd.R_mono (rF 10 (rF 9 (rF 8 (rF 7 (rF 6 (rF 5 (rF 4 (rF 3 (rF 2 (rF 1 (rF 0 (Kd.R_types HO432.out BK439.out (by decide))))))))))))) (fun _ h_ => h_.1))) hb); have n5_ := aA (Kd.R_below (by (with_reducible repeat (first | apply Kd.R_alloc | apply Kd.R_drewN | apply Kd.R_drew)); exact (Kd.R_mono (rF 10 (rF 9 (rF 8 (rF 7 (rF 6 (rF 5 (rF 4 (rF 3 (rF 2 (rF 1 (rF 0 (Kd.R_types HO437.out BK439.out (by decide))))))))))))) (fun _ h_ => h_.1))) hb); have n6_ := aA (blk_below (g := gb420) (o := .cells #[.int .i64 t402, .slice Ao94 t403.length co94, .int .i64 t406, .int .i64 t407, .int .i64 t408, .int .i64 t409, .int .i64 t410, .slice Ao95 t411.length co95, .int .i64 t414, .int .i64 t415, .slice Ao96 t416.length co96] 50 (0, 0)) (by (with_reducible repeat (first | refine blk_drewN ?_ _ | refine blk_drew ?_ | refine blk_alloc ?_ _)); refine blk_far ?_ NB420_439.out _; (with_reducible repeat (first | refine blk_drewN ?_ _ | refine blk_drew ?_ | refine blk_alloc ?_ _)); refine blk_far ?_ NB420_439.out _; (with_reducible repeat (first | refine blk_drewN ?_ _ | refine blk_drew ?_ | refine blk_alloc ?_ _)); refine blk_far ?_ NB420_439.out _; (with_reducible repeat (first | refine blk_drewN ?_ _ | refine blk_drew ?_ | refine blk_alloc ?_ _)); refine blk_far ?_ NB420_439.out _; (with_reducible repeat (first | refine blk_drewN ?_ _ | refine blk_drew ?_ | refine blk_alloc ?_ _)); refine blk_far ?_ NB420_439.out _; (with_reducible repeat (first | refine blk_drewN ?_ _ | refine blk_drew ?_ | refine blk_alloc ?_ _)); refine blk_far ?_ NB420_439.out _; (with_reducible repeat (first | refine blk_drewN ?_ _ | refine blk_drew ?_ | refine blk_alloc ?_ _)); refine blk_far ?_ NB420_439.out _; (with_reducible repeat (first | refine blk_drewN ?_ _ | refine blk_drew ?_ | refine blk_alloc ?_ _)); refine blk_far ?_ NB420_439.out _; (with_reducible repeat (first | refine blk_drewN ?_ _ | refine blk_drew ?_ | refine blk_alloc ?_ _)); refine blk_far ?_ NB420_439.out _; (with_reducible repeat (first | refine blk_drewN ?_ _ | refine blk_drew ?_ | refine blk_alloc ?_ _)); refine blk_far ?_ NB420_439.out _; (with_reducible repeat (first | refine blk_drewN ?_ _ | refine blk_drew ?_ | refine blk_alloc ?_ _)); refine blk_far ?_ NB420_439.out _; (with_reducible repeat (first | refine blk_drewN ?_ _ | refine blk_drew ?_ | refine blk_alloc ?_ _)); exact BK420.out) hb); have n7_ := aA (blk_below (g := gb439) (o := .cells #[.int .i64 t421, .slice Ao101 t422.length co101, .int .i64 t425, .int .i64 t426, .int .i64 t427, .int .i64 t428, .int .i64 t429, .slice Ao102 t430.length co102, .int .i64 t433, .int .i64 t434, .slice Ao103 t435.length co103] 50 (0, 0)) (by (with_reducible repeat (first | refine blk_drewN ?_ _ | refine blk_drew ?_ | refine blk_alloc ?_ _)); have h_ := BK439.out; exact pK 10 (pK 9 (pK 8 (pK 7 (pK 6 (pK 5 (pK 4 (pK 3 (pK 2 (pK 1 (pK 0 (h_)))))))))))) hb); have n8_ := aA (below_step (mD2 GE420.out GE439.out) hb); clear HO405 HO413 HO418 HO424 HO432 HO437 BK420 BK439 HB; have HO405 := n0_; have HO413 := n1_; have HO418 := n2_; have HO424 := n3_; have HO432 := n4_; have HO437 := n5_; have BK420 := n6_; have BK439 := n7_; have HB := n8_; clear n0_ n1_ n2_ n3_ n4_ n5_ n6_ n7_ n8_; (try clear hb); (try clear hb2); (try clear hk); (try clear hi)))
     go_ret
     exact ⟨by first | rfl | (simp [errW_none, errW_some] <;> rfl) | (simp only [← hji2]; first | rfl | (simp [errW_none, errW_some] <;> rfl)) | (simp [*, errW_none, errW_some] <;> rfl), by repeat (first | (with_reducible first | exact HB.out | apply below_alloc | apply pw_below_drewN | apply below_drew1 | refine below_set ?_ GE420.out | refine below_set ?_ GE439.out) | exact HB.out)⟩
  ·rw [if_neg c4] at H
   exact absurd H (by simp)
 ·rw [if_neg c3] at H
  exact absurd H (by simp)
end Go.Proofs.YtndgollcganhmaaQ.P
namespace Go.Proofs.Ytndgollcganhmaa
open Go.RowKit Go.Proofs.YtndgollcganhmaaW.PrintWords Go.Proofs.YtndgollcganhmaaW.PrintMore
theorem w64 {x : Int} (h0 : -9223372036854775808 ≤ x) (h1 : x ≤ 9223372036854775807) : wrap64 x = x := by unfold wrap64; omega
theorem w64s {i : Nat} (h : i < 9223372036854775807) : wrap64 ((i : Int) + 1) = ((i + 1 : Nat) : Int) := by rw [w64 (by omega) (by omega)]; omega
theorem getD_cast {α : Type} {z : α} {xs : List α} {i : Nat} (h : i < xs.length) : xs.getD (i : Int).toNat z = xs[i] := by
  rw [List.getD_eq_getElem?_getD, Int.toNat_natCast, List.getElem?_eq_getElem h]
  rfl
theorem drop_cons {α : Type} {xs : List α} {i : Nat} (h : i < xs.length) : xs.drop i = xs[i] :: xs.drop (i + 1) := List.drop_eq_getElem_cons h
theorem drop_end {α : Type} {xs : List α} {i : Nat} (h : xs.length ≤ i) : xs.drop i = [] := List.drop_eq_nil_of_le h
theorem mn_eq (a b : Int) : mn a b = min a b := by unfold mn; omega
def cutB (n : Nat) (x : ByteArray) : ByteArray := x.extract 0 n
theorem cutB_size (n : Nat) (x : ByteArray) : (cutB n x).size = min n x.size := by
  unfold cutB
  rw [ByteArray.size_extract]
  omega
theorem cutB_mn (n : Nat) (m : Int) (x : ByteArray) (hm : m = n) : x.extract 0 (mn (x.size : Int) m).toNat = cutB n x := by
  subst hm
  unfold cutB
  rw [mn_eq]
  apply ByteArray.ext
  rw [ByteArray.data_extract, ByteArray.data_extract]
  rcases Nat.le_total x.size n with h | h
  · rw [show (min (x.size : Int) n).toNat = x.size by omega]
    rw [Array.extract_eq_self_of_le (show x.data.size ≤ x.size from Nat.le_refl _), Array.extract_eq_self_of_le (show x.data.size ≤ n from h)]
  · rw [show (min (x.size : Int) n).toNat = n by omega]
end Go.Proofs.Ytndgollcganhmaa
