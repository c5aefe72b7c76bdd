/- The statement 'WireOrder': for every input the law returns true, and each argument reads behind the call as it read before; the library's tables are tied to the program's text. No condition. -/
import Derived.WideShapes
import Derived.HandedShaped
import Derived.SizedLaws
import Derived.LaidMore
import Derived.Test.YtjfknmlchdifjaaGreatDoorRows
import Derived.Test.YtjfknmlchdifjaaGreatDoorCards
import Derived.Test.YtjfknmlchdifjaaGreatDoorTie
import Derived.WalkKit
import Derived.ProofKit
import Derived.OpenShut
import Derived.ShutString
import Derived.Below
import Derived.Carry
import Derived.Stop.Joined
import Derived.Stop.LaidErr
import Derived.SevenTiedAt
import Derived.Lib.LaidTab
import Derived.Lay
import Derived.LaidOnce
import Derived.Shelf.Vars
import Derived.Test.YtjfknmlchdifjaaGreatDoorWwo1
import Derived.Test.YtjfknmlchdifjaaGreatDoorWwo2
import Derived.Test.YtjfknmlchdifjaaGreatDoorWwo3
set_option linter.unusedVariables false
set_option linter.unusedSimpArgs false
namespace Go.Proofs.YtjfknmlchdifjaaGreatDoorQ.P
open Go.RowKit Go.Proofs.YtjfknmlchdifjaaGreatDoorW.PrintWords Go.Proofs.YtjfknmlchdifjaaGreatDoorW.PrintLast Go.Proofs.YtjfknmlchdifjaaGreatDoorW.PrintMore
attribute [local go_sem] max2_int min2_int max_two min_two max_three min_three max_four min_four
def wire_Right.f (a0_0 : Int) (l0_1 : List (S52)) (a0_2 : Int) (a0_3 : Int) (l0_4 : List (S32)) : Option (Bool) := if a0_0 = 2 then (if (l0_1.length : Int) = 0 then ((wire_isHush.f a0_2 a0_3 l0_4).bind fun t404 => (some t404)) else (some false)) else (if a0_2 = 0 then (if a0_3 = 0 then (if a0_0 = 0 then ((label_Right.f l0_1).bind fun t405 => (if t405 = true then (some ((l0_4.length : Int) == 0)) else (some false))) else (if a0_0 = 1 then ((label_Right.f l0_1).bind fun t406 => (if t406 = true then (some ((l0_4.length : Int) == 0)) else (some false))) else (some false))) else (if a0_0 = 0 then ((label_Right.f l0_1).bind fun t407 => (if t407 = true then (some false) else (some false))) else (if a0_0 = 1 then ((label_Right.f l0_1).bind fun t408 => (if t408 = true then (some false) else (some false))) else (some false)))) else (if a0_0 = 0 then ((label_Right.f l0_1).bind fun t409 => (if t409 = true then (some false) else (some false))) else (if a0_0 = 1 then ((label_Right.f l0_1).bind fun t410 => (if t410 = true then (some false) else (some false))) else (some false))))
set_option maxHeartbeats 8000000 in
set_option maxRecDepth 100000 in
theorem wire_Right.calls (a0_0 : Int) (A0_1 : Option Addr) (c0_1 : Nat) (l0_1 : List (S52)) (a0_2 : Int) (a0_3 : Int) (A0_4 : Option Addr) (c0_4 : Nat) (l0_4 : List (S32)) (r : Bool) (w : World) (hr0_1 : Kd.C k52 w A0_1 l0_1.length l0_1) (hc0_1 : l0_1.length ≤ c0_1) (hr0_4 : Kd.C k32 w A0_4 l0_4.length l0_4) (hc0_4 : l0_4.length ≤ c0_4) (h : wire_Right.f a0_0 l0_1 a0_2 a0_3 l0_4 = some r) :
  Calls Tryz.prog 20 #[.agg #[.int .i64 a0_0, .slice A0_1 l0_1.length c0_1, .int .i64 a0_2, .int .i64 a0_3, .slice A0_4 l0_4.length c0_4]] w fun e w' => e = .returned (.bool r) ∧ Below w.heap.size w w' := by
 have hu27 := Tryz.underlying27
 have hu25 := Tryz.underlying25
 have HR0_1 := aA hr0_1
 have HC0_1 := aA hc0_1
 clear hr0_1 hc0_1
 have HR0_4 := aA hr0_4
 have HC0_4 := aA hc0_4
 clear hr0_4 hc0_4
 have HB := aA (Below.refl w.heap.size w)
 have H : (if a0_0 = 2 then (if (l0_1.length : Int) = 0 then ((wire_isHush.f a0_2 a0_3 l0_4).bind fun t404 => (some t404)) else (some false)) else (if a0_2 = 0 then (if a0_3 = 0 then (if a0_0 = 0 then ((label_Right.f l0_1).bind fun t405 => (if t405 = true then (some ((l0_4.length : Int) == 0)) else (some false))) else (if a0_0 = 1 then ((label_Right.f l0_1).bind fun t406 => (if t406 = true then (some ((l0_4.length : Int) == 0)) else (some false))) else (some false))) else (if a0_0 = 0 then ((label_Right.f l0_1).bind fun t407 => (if t407 = true then (some false) else (some false))) else (if a0_0 = 1 then ((label_Right.f l0_1).bind fun t408 => (if t408 = true then (some false) else (some false))) else (some false)))) else (if a0_0 = 0 then ((label_Right.f l0_1).bind fun t409 => (if t409 = true then (some false) else (some false))) else (if a0_0 = 1 then ((label_Right.f l0_1).bind fun t410 => (if t410 = true then (some false) else (some false))) else (some false))))) = some r := h
 clear h
 by_cases c2 : a0_0 = 2
 ·rw [if_pos c2] at H
  have c2b0 : (a0_0 == 2) = true := beq_iff_eq.mpr c2
  have c2b1 : (a0_0 != 2) = false := bne_eq_false_iff_eq.mpr c2
  clear c2
  by_cases c3 : (l0_1.length : Int) = 0
  ·rw [if_pos c3] at H
   have c3b0 : ((l0_1.length : Int) == 0) = true := beq_iff_eq.mpr c3
   have c3b1 : ((l0_1.length : Int) != 0) = false := bne_eq_false_iff_eq.mpr c3
   clear c3
   replace H := Option.bind_eq_some_iff.mp H
   obtain ⟨t404, A40, H⟩ := H
   have A4 := aA A40
   clear A40
   obtain rfl := Option.some.inj H
   go_enter Tryz.func20, Tryz.ntmps20
   go_wp2_with (first | ((with_reducible refine gate_dst (N := 1) rfl ?_); (try (refine gate_guard (by rfl) ?_; dsimp only)); refine box_event ?hg (N := 1) ?hd (cs := #[.int .i64 a0_0, .slice A0_1 l0_1.length c0_1, .int .i64 a0_2, .int .i64 a0_3, .slice A0_4 l0_4.length c0_4]) (t := 27) ?hr ?_; (case hd => rfl); (case hg => rfl); (case hr => first | (go_simp; done) | (go_simp; rfl)); intro gb403 hg w5 hbox hb; have n0_ := aA (below_step mB hb); have n1_ := aA (hbox); have n2_ := aA ((bZ hg mB)); have n3_ := aA ((bZ hg mB)); clear HB; have HB := n0_; have BK403 := n1_; have GW403 := n2_; have GE403 := n3_; clear n0_ n1_ n2_ n3_ hb hbox hg; obtain ⟨hcz6_0, hcz6_1, hcz6_2, hcz6_3, hcz6_4⟩ := bC5 BK403.out; obtain ⟨hfz6_0, hfz6_1, hfz6_2, hfz6_3, hfz6_4⟩ := bF5 BK403.out) | (go_at_call 47; (with_reducible refine (wire_isHush.calls a0_2 a0_3 _ _ l0_4 t404 _ ?side1 ?side2 A4.out).mono ?_); (case side1 => exact mC ((Kd.C_below HR0_4.out HB.out))); (case side2 => exact HC0_4.out); rintro e w7 ⟨rfl, hb⟩; have n0_ := aA (bB BK403.out hb); have n1_ := aA (below_step (mD1 GE403.out) hb); clear BK403 HB; have BK403 := n0_; have HB := n1_; clear n0_ n1_; (try clear hb); (try clear hb2); (try clear hk); (try clear hi)))
   go_ret
   exact ⟨by first | rfl | (simp [errW_none, errW_some] <;> rfl) | (simp [*, errW_none, errW_some] <;> rfl), by repeat (first | (with_reducible first | exact HB.out | apply below_alloc | apply pw_below_drewN | apply below_drew1 | refine below_set ?_ GE403.out) | exact HB.out)⟩
  ·rw [if_neg c3] at H
   have c3b0 : ((l0_1.length : Int) == 0) = false := beq_eq_false_iff_ne.mpr c3
   have c3b1 : ((l0_1.length : Int) != 0) = true := bne_iff_ne.mpr c3
   have c3b2 : ¬ (l0_1 = []) := fun h_ => c3 (by rw [h_]; rfl)
   obtain rfl := Option.some.inj H
   go_enter Tryz.func20, Tryz.ntmps20
   go_wp2_with (first | ((with_reducible refine gate_dst (N := 1) rfl ?_); (try (refine gate_guard (by rfl) ?_; dsimp only)); refine box_event ?hg (N := 1) ?hd (cs := #[.int .i64 a0_0, .slice A0_1 l0_1.length c0_1, .int .i64 a0_2, .int .i64 a0_3, .slice A0_4 l0_4.length c0_4]) (t := 27) ?hr ?_; (case hd => rfl); (case hg => rfl); (case hr => first | (go_simp; done) | (go_simp; rfl)); intro gb403 hg w8 hbox hb; have n0_ := aA (below_step mB hb); have n1_ := aA (hbox); have n2_ := aA ((bZ hg mB)); have n3_ := aA ((bZ hg mB)); clear HB; have HB := n0_; have BK403 := n1_; have GW403 := n2_; have GE403 := n3_; clear n0_ n1_ n2_ n3_ hb hbox hg; obtain ⟨hcz9_0, hcz9_1, hcz9_2, hcz9_3, hcz9_4⟩ := bC5 BK403.out; obtain ⟨hfz9_0, hfz9_1, hfz9_2, hfz9_3, hfz9_4⟩ := bF5 BK403.out))
   go_ret
   exact ⟨by first | rfl | (simp [errW_none, errW_some] <;> rfl) | (simp [*, errW_none, errW_some] <;> rfl), by repeat (first | (with_reducible first | exact HB.out | apply below_alloc | apply pw_below_drewN | apply below_drew1 | refine below_set ?_ GE403.out) | exact HB.out)⟩
 ·rw [if_neg c2] at H
  have c2b0 : (a0_0 == 2) = false := beq_eq_false_iff_ne.mpr c2
  have c2b1 : (a0_0 != 2) = true := bne_iff_ne.mpr c2
  by_cases c10 : a0_2 = 0
  ·rw [if_pos c10] at H
   have c10b0 : (a0_2 == 0) = true := beq_iff_eq.mpr c10
   have c10b1 : (a0_2 != 0) = false := bne_eq_false_iff_eq.mpr c10
   clear c10
   by_cases c11 : a0_3 = 0
   ·rw [if_pos c11] at H
    have c11b0 : (a0_3 == 0) = true := beq_iff_eq.mpr c11
    have c11b1 : (a0_3 != 0) = false := bne_eq_false_iff_eq.mpr c11
    clear c11
    by_cases c12 : a0_0 = 0
    ·rw [if_pos c12] at H
     have c12b0 : (a0_0 == 0) = true := beq_iff_eq.mpr c12
     have c12b1 : (a0_0 != 0) = false := bne_eq_false_iff_eq.mpr c12
     clear c12
     replace H := Option.bind_eq_some_iff.mp H
     obtain ⟨t405, A130, H⟩ := H
     have A13 := aA A130
     clear A130
     by_cases c14 : t405 = true
     ·subst c14
      have H1 : (some ((l0_4.length : Int) == 0)) = some r := by rw [if_pos rfl] at H; exact H
      clear H
      have H := H1
      clear H1
      obtain rfl := Option.some.inj H
      go_enter Tryz.func20, Tryz.ntmps20
      go_wp2_with (first | ((with_reducible refine gate_dst (N := 1) rfl ?_); (try (refine gate_guard (by rfl) ?_; dsimp only)); refine box_event ?hg (N := 1) ?hd (cs := #[.int .i64 a0_0, .slice A0_1 l0_1.length c0_1, .int .i64 a0_2, .int .i64 a0_3, .slice A0_4 l0_4.length c0_4]) (t := 27) ?hr ?_; (case hd => rfl); (case hg => rfl); (case hr => first | (go_simp; done) | (go_simp; rfl)); intro gb403 hg w15 hbox hb; have n0_ := aA (below_step mB hb); have n1_ := aA (hbox); have n2_ := aA ((bZ hg mB)); have n3_ := aA ((bZ hg mB)); clear HB; have HB := n0_; have BK403 := n1_; have GW403 := n2_; have GE403 := n3_; clear n0_ n1_ n2_ n3_ hb hbox hg; obtain ⟨hcz16_0, hcz16_1, hcz16_2, hcz16_3, hcz16_4⟩ := bC5 BK403.out; obtain ⟨hfz16_0, hfz16_1, hfz16_2, hfz16_3, hfz16_4⟩ := bF5 BK403.out) | (go_at_call 48; (with_reducible refine (label_Right.calls _ _ l0_1 true _ ?side1 ?side2 A13.out).mono ?_); (case side1 => exact mC ((Kd.C_below HR0_1.out HB.out))); (case side2 => exact HC0_1.out); rintro e w17 ⟨rfl, hb⟩; have n0_ := aA (bB BK403.out hb); have n1_ := aA (below_step (mD1 GE403.out) hb); clear BK403 HB; have BK403 := n0_; have HB := n1_; clear n0_ n1_; (try clear hb); (try clear hb2); (try clear hk); (try clear hi)))
      go_ret
      exact ⟨by first | rfl | (simp [errW_none, errW_some] <;> rfl) | (simp [*, errW_none, errW_some] <;> rfl), by repeat (first | (with_reducible first | exact HB.out | apply below_alloc | apply pw_below_drewN | apply below_drew1 | refine below_set ?_ GE403.out) | exact HB.out)⟩
     ·replace c14 := Bool.eq_false_iff.mpr c14
      subst c14
      have H1 : (some false) = some r := by rw [if_neg (show ¬ (false = true) by decide)] at H; exact H
      clear H
      have H := H1
      clear H1
      obtain rfl := Option.some.inj H
      go_enter Tryz.func20, Tryz.ntmps20
      go_wp2_with (first | ((with_reducible refine gate_dst (N := 1) rfl ?_); (try (refine gate_guard (by rfl) ?_; dsimp only)); refine box_event ?hg (N := 1) ?hd (cs := #[.int .i64 a0_0, .slice A0_1 l0_1.length c0_1, .int .i64 a0_2, .int .i64 a0_3, .slice A0_4 l0_4.length c0_4]) (t := 27) ?hr ?_; (case hd => rfl); (case hg => rfl); (case hr => first | (go_simp; done) | (go_simp; rfl)); intro gb403 hg w18 hbox hb; have n0_ := aA (below_step mB hb); have n1_ := aA (hbox); have n2_ := aA ((bZ hg mB)); have n3_ := aA ((bZ hg mB)); clear HB; have HB := n0_; have BK403 := n1_; have GW403 := n2_; have GE403 := n3_; clear n0_ n1_ n2_ n3_ hb hbox hg; obtain ⟨hcz19_0, hcz19_1, hcz19_2, hcz19_3, hcz19_4⟩ := bC5 BK403.out; obtain ⟨hfz19_0, hfz19_1, hfz19_2, hfz19_3, hfz19_4⟩ := bF5 BK403.out) | (go_at_call 48; (with_reducible refine (label_Right.calls _ _ l0_1 false _ ?side1 ?side2 A13.out).mono ?_); (case side1 => exact mC ((Kd.C_below HR0_1.out HB.out))); (case side2 => exact HC0_1.out); rintro e w20 ⟨rfl, hb⟩; have n0_ := aA (bB BK403.out hb); have n1_ := aA (below_step (mD1 GE403.out) hb); clear BK403 HB; have BK403 := n0_; have HB := n1_; clear n0_ n1_; (try clear hb); (try clear hb2); (try clear hk); (try clear hi)))
      go_ret
      exact ⟨by first | rfl | (simp [errW_none, errW_some] <;> rfl) | (simp [*, errW_none, errW_some] <;> rfl), by repeat (first | (with_reducible first | exact HB.out | apply below_alloc | apply pw_below_drewN | apply below_drew1 | refine below_set ?_ GE403.out) | exact HB.out)⟩
    ·rw [if_neg c12] at H
     have c12b0 : (a0_0 == 0) = false := beq_eq_false_iff_ne.mpr c12
     have c12b1 : (a0_0 != 0) = true := bne_iff_ne.mpr c12
     by_cases c21 : a0_0 = 1
     ·rw [if_pos c21] at H
      have c21b0 : (a0_0 == 1) = true := beq_iff_eq.mpr c21
      have c21b1 : (a0_0 != 1) = false := bne_eq_false_iff_eq.mpr c21
      clear c21
      replace H := Option.bind_eq_some_iff.mp H
      obtain ⟨t406, A220, H⟩ := H
      have A22 := aA A220
      clear A220
      by_cases c23 : t406 = true
      ·subst c23
       have H1 : (some ((l0_4.length : Int) == 0)) = some r := by rw [if_pos rfl] at H; exact H
       clear H
       have H := H1
       clear H1
       obtain rfl := Option.some.inj H
       go_enter Tryz.func20, Tryz.ntmps20
       go_wp2_with (first | ((with_reducible refine gate_dst (N := 1) rfl ?_); (try (refine gate_guard (by rfl) ?_; dsimp only)); refine box_event ?hg (N := 1) ?hd (cs := #[.int .i64 a0_0, .slice A0_1 l0_1.length c0_1, .int .i64 a0_2, .int .i64 a0_3, .slice A0_4 l0_4.length c0_4]) (t := 27) ?hr ?_; (case hd => rfl); (case hg => rfl); (case hr => first | (go_simp; done) | (go_simp; rfl)); intro gb403 hg w24 hbox hb; have n0_ := aA (below_step mB hb); have n1_ := aA (hbox); have n2_ := aA ((bZ hg mB)); have n3_ := aA ((bZ hg mB)); clear HB; have HB := n0_; have BK403 := n1_; have GW403 := n2_; have GE403 := n3_; clear n0_ n1_ n2_ n3_ hb hbox hg; obtain ⟨hcz25_0, hcz25_1, hcz25_2, hcz25_3, hcz25_4⟩ := bC5 BK403.out; obtain ⟨hfz25_0, hfz25_1, hfz25_2, hfz25_3, hfz25_4⟩ := bF5 BK403.out) | (go_at_call 48; (with_reducible refine (label_Right.calls _ _ l0_1 true _ ?side1 ?side2 A22.out).mono ?_); (case side1 => exact mC ((Kd.C_below HR0_1.out HB.out))); (case side2 => exact HC0_1.out); rintro e w26 ⟨rfl, hb⟩; have n0_ := aA (bB BK403.out hb); have n1_ := aA (below_step (mD1 GE403.out) hb); clear BK403 HB; have BK403 := n0_; have HB := n1_; clear n0_ n1_; (try clear hb); (try clear hb2); (try clear hk); (try clear hi)))
       go_ret
       exact ⟨by first | rfl | (simp [errW_none, errW_some] <;> rfl) | (simp [*, errW_none, errW_some] <;> rfl), by repeat (first | (with_reducible first | exact HB.out | apply below_alloc | apply pw_below_drewN | apply below_drew1 | refine below_set ?_ GE403.out) | exact HB.out)⟩
      ·replace c23 := Bool.eq_false_iff.mpr c23
       subst c23
       have H1 : (some false) = some r := by rw [if_neg (show ¬ (false = true) by decide)] at H; exact H
       clear H
       have H := H1
       clear H1
       obtain rfl := Option.some.inj H
       go_enter Tryz.func20, Tryz.ntmps20
       go_wp2_with (first | ((with_reducible refine gate_dst (N := 1) rfl ?_); (try (refine gate_guard (by rfl) ?_; dsimp only)); refine box_event ?hg (N := 1) ?hd (cs := #[.int .i64 a0_0, .slice A0_1 l0_1.length c0_1, .int .i64 a0_2, .int .i64 a0_3, .slice A0_4 l0_4.length c0_4]) (t := 27) ?hr ?_; (case hd => rfl); (case hg => rfl); (case hr => first | (go_simp; done) | (go_simp; rfl)); intro gb403 hg w27 hbox hb; have n0_ := aA (below_step mB hb); have n1_ := aA (hbox); have n2_ := aA ((bZ hg mB)); have n3_ := aA ((bZ hg mB)); clear HB; have HB := n0_; have BK403 := n1_; have GW403 := n2_; have GE403 := n3_; clear n0_ n1_ n2_ n3_ hb hbox hg; obtain ⟨hcz28_0, hcz28_1, hcz28_2, hcz28_3, hcz28_4⟩ := bC5 BK403.out; obtain ⟨hfz28_0, hfz28_1, hfz28_2, hfz28_3, hfz28_4⟩ := bF5 BK403.out) | (go_at_call 48; (with_reducible refine (label_Right.calls _ _ l0_1 false _ ?side1 ?side2 A22.out).mono ?_); (case side1 => exact mC ((Kd.C_below HR0_1.out HB.out))); (case side2 => exact HC0_1.out); rintro e w29 ⟨rfl, hb⟩; have n0_ := aA (bB BK403.out hb); have n1_ := aA (below_step (mD1 GE403.out) hb); clear BK403 HB; have BK403 := n0_; have HB := n1_; clear n0_ n1_; (try clear hb); (try clear hb2); (try clear hk); (try clear hi)))
       go_ret
       exact ⟨by first | rfl | (simp [errW_none, errW_some] <;> rfl) | (simp [*, errW_none, errW_some] <;> rfl), by repeat (first | (with_reducible first | exact HB.out | apply below_alloc | apply pw_below_drewN | apply below_drew1 | refine below_set ?_ GE403.out) | exact HB.out)⟩
     ·rw [if_neg c21] at H
      have c21b0 : (a0_0 == 1) = false := beq_eq_false_iff_ne.mpr c21
      have c21b1 : (a0_0 != 1) = true := bne_iff_ne.mpr c21
      obtain rfl := Option.some.inj H
      go_enter Tryz.func20, Tryz.ntmps20
      go_wp2_with (first | ((with_reducible refine gate_dst (N := 1) rfl ?_); (try (refine gate_guard (by rfl) ?_; dsimp only)); refine box_event ?hg (N := 1) ?hd (cs := #[.int .i64 a0_0, .slice A0_1 l0_1.length c0_1, .int .i64 a0_2, .int .i64 a0_3, .slice A0_4 l0_4.length c0_4]) (t := 27) ?hr ?_; (case hd => rfl); (case hg => rfl); (case hr => first | (go_simp; done) | (go_simp; rfl)); intro gb403 hg w30 hbox hb; have n0_ := aA (below_step mB hb); have n1_ := aA (hbox); have n2_ := aA ((bZ hg mB)); have n3_ := aA ((bZ hg mB)); clear HB; have HB := n0_; have BK403 := n1_; have GW403 := n2_; have GE403 := n3_; clear n0_ n1_ n2_ n3_ hb hbox hg; obtain ⟨hcz31_0, hcz31_1, hcz31_2, hcz31_3, hcz31_4⟩ := bC5 BK403.out; obtain ⟨hfz31_0, hfz31_1, hfz31_2, hfz31_3, hfz31_4⟩ := bF5 BK403.out))
      go_ret
      exact ⟨by first | rfl | (simp [errW_none, errW_some] <;> rfl) | (simp [*, errW_none, errW_some] <;> rfl), by repeat (first | (with_reducible first | exact HB.out | apply below_alloc | apply pw_below_drewN | apply below_drew1 | refine below_set ?_ GE403.out) | exact HB.out)⟩
   ·rw [if_neg c11] at H
    have c11b0 : (a0_3 == 0) = false := beq_eq_false_iff_ne.mpr c11
    have c11b1 : (a0_3 != 0) = true := bne_iff_ne.mpr c11
    by_cases c32 : a0_0 = 0
    ·rw [if_pos c32] at H
     have c32b0 : (a0_0 == 0) = true := beq_iff_eq.mpr c32
     have c32b1 : (a0_0 != 0) = false := bne_eq_false_iff_eq.mpr c32
     clear c32
     replace H := Option.bind_eq_some_iff.mp H
     obtain ⟨t407, A330, H⟩ := H
     have A33 := aA A330
     clear A330
     by_cases c34 : t407 = true
     ·subst c34
      have H1 : (some false) = some r := by rw [if_pos rfl] at H; exact H
      clear H
      have H := H1
      clear H1
      obtain rfl := Option.some.inj H
      go_enter Tryz.func20, Tryz.ntmps20
      go_wp2_with (first | ((with_reducible refine gate_dst (N := 1) rfl ?_); (try (refine gate_guard (by rfl) ?_; dsimp only)); refine box_event ?hg (N := 1) ?hd (cs := #[.int .i64 a0_0, .slice A0_1 l0_1.length c0_1, .int .i64 a0_2, .int .i64 a0_3, .slice A0_4 l0_4.length c0_4]) (t := 27) ?hr ?_; (case hd => rfl); (case hg => rfl); (case hr => first | (go_simp; done) | (go_simp; rfl)); intro gb403 hg w35 hbox hb; have n0_ := aA (below_step mB hb); have n1_ := aA (hbox); have n2_ := aA ((bZ hg mB)); have n3_ := aA ((bZ hg mB)); clear HB; have HB := n0_; have BK403 := n1_; have GW403 := n2_; have GE403 := n3_; clear n0_ n1_ n2_ n3_ hb hbox hg; obtain ⟨hcz36_0, hcz36_1, hcz36_2, hcz36_3, hcz36_4⟩ := bC5 BK403.out; obtain ⟨hfz36_0, hfz36_1, hfz36_2, hfz36_3, hfz36_4⟩ := bF5 BK403.out) | (go_at_call 48; (with_reducible refine (label_Right.calls _ _ l0_1 true _ ?side1 ?side2 A33.out).mono ?_); (case side1 => exact mC ((Kd.C_below HR0_1.out HB.out))); (case side2 => exact HC0_1.out); rintro e w37 ⟨rfl, hb⟩; have n0_ := aA (bB BK403.out hb); have n1_ := aA (below_step (mD1 GE403.out) hb); clear BK403 HB; have BK403 := n0_; have HB := n1_; clear n0_ n1_; (try clear hb); (try clear hb2); (try clear hk); (try clear hi)))
      go_ret
      exact ⟨by first | rfl | (simp [errW_none, errW_some] <;> rfl) | (simp [*, errW_none, errW_some] <;> rfl), by repeat (first | (with_reducible first | exact HB.out | apply below_alloc | apply pw_below_drewN | apply below_drew1 | refine below_set ?_ GE403.out) | exact HB.out)⟩
     ·replace c34 := Bool.eq_false_iff.mpr c34
      subst c34
      have H1 : (some false) = some r := by rw [if_neg (show ¬ (false = true) by decide)] at H; exact H
      clear H
      have H := H1
      clear H1
      obtain rfl := Option.some.inj H
      go_enter Tryz.func20, Tryz.ntmps20
      go_wp2_with (first | ((with_reducible refine gate_dst (N := 1) rfl ?_); (try (refine gate_guard (by rfl) ?_; dsimp only)); refine box_event ?hg (N := 1) ?hd (cs := #[.int .i64 a0_0, .slice A0_1 l0_1.length c0_1, .int .i64 a0_2, .int .i64 a0_3, .slice A0_4 l0_4.length c0_4]) (t := 27) ?hr ?_; (case hd => rfl); (case hg => rfl); (case hr => first | (go_simp; done) | (go_simp; rfl)); intro gb403 hg w38 hbox hb; have n0_ := aA (below_step mB hb); have n1_ := aA (hbox); have n2_ := aA ((bZ hg mB)); have n3_ := aA ((bZ hg mB)); clear HB; have HB := n0_; have BK403 := n1_; have GW403 := n2_; have GE403 := n3_; clear n0_ n1_ n2_ n3_ hb hbox hg; obtain ⟨hcz39_0, hcz39_1, hcz39_2, hcz39_3, hcz39_4⟩ := bC5 BK403.out; obtain ⟨hfz39_0, hfz39_1, hfz39_2, hfz39_3, hfz39_4⟩ := bF5 BK403.out) | (go_at_call 48; (with_reducible refine (label_Right.calls _ _ l0_1 false _ ?side1 ?side2 A33.out).mono ?_); (case side1 => exact mC ((Kd.C_below HR0_1.out HB.out))); (case side2 => exact HC0_1.out); rintro e w40 ⟨rfl, hb⟩; have n0_ := aA (bB BK403.out hb); have n1_ := aA (below_step (mD1 GE403.out) hb); clear BK403 HB; have BK403 := n0_; have HB := n1_; clear n0_ n1_; (try clear hb); (try clear hb2); (try clear hk); (try clear hi)))
      go_ret
      exact ⟨by first | rfl | (simp [errW_none, errW_some] <;> rfl) | (simp [*, errW_none, errW_some] <;> rfl), by repeat (first | (with_reducible first | exact HB.out | apply below_alloc | apply pw_below_drewN | apply below_drew1 | refine below_set ?_ GE403.out) | exact HB.out)⟩
    ·rw [if_neg c32] at H
     have c32b0 : (a0_0 == 0) = false := beq_eq_false_iff_ne.mpr c32
     have c32b1 : (a0_0 != 0) = true := bne_iff_ne.mpr c32
     by_cases c41 : a0_0 = 1
     ·rw [if_pos c41] at H
      have c41b0 : (a0_0 == 1) = true := beq_iff_eq.mpr c41
      have c41b1 : (a0_0 != 1) = false := bne_eq_false_iff_eq.mpr c41
      clear c41
      replace H := Option.bind_eq_some_iff.mp H
      obtain ⟨t408, A420, H⟩ := H
      have A42 := aA A420
      clear A420
      by_cases c43 : t408 = true
      ·subst c43
       have H1 : (some false) = some r := by rw [if_pos rfl] at H; exact H
       clear H
       have H := H1
       clear H1
       obtain rfl := Option.some.inj H
       go_enter Tryz.func20, Tryz.ntmps20
       go_wp2_with (first | ((with_reducible refine gate_dst (N := 1) rfl ?_); (try (refine gate_guard (by rfl) ?_; dsimp only)); refine box_event ?hg (N := 1) ?hd (cs := #[.int .i64 a0_0, .slice A0_1 l0_1.length c0_1, .int .i64 a0_2, .int .i64 a0_3, .slice A0_4 l0_4.length c0_4]) (t := 27) ?hr ?_; (case hd => rfl); (case hg => rfl); (case hr => first | (go_simp; done) | (go_simp; rfl)); intro gb403 hg w44 hbox hb; have n0_ := aA (below_step mB hb); have n1_ := aA (hbox); have n2_ := aA ((bZ hg mB)); have n3_ := aA ((bZ hg mB)); clear HB; have HB := n0_; have BK403 := n1_; have GW403 := n2_; have GE403 := n3_; clear n0_ n1_ n2_ n3_ hb hbox hg; obtain ⟨hcz45_0, hcz45_1, hcz45_2, hcz45_3, hcz45_4⟩ := bC5 BK403.out; obtain ⟨hfz45_0, hfz45_1, hfz45_2, hfz45_3, hfz45_4⟩ := bF5 BK403.out) | (go_at_call 48; (with_reducible refine (label_Right.calls _ _ l0_1 true _ ?side1 ?side2 A42.out).mono ?_); (case side1 => exact mC ((Kd.C_below HR0_1.out HB.out))); (case side2 => exact HC0_1.out); rintro e w46 ⟨rfl, hb⟩; have n0_ := aA (bB BK403.out hb); have n1_ := aA (below_step (mD1 GE403.out) hb); clear BK403 HB; have BK403 := n0_; have HB := n1_; clear n0_ n1_; (try clear hb); (try clear hb2); (try clear hk); (try clear hi)))
       go_ret
       exact ⟨by first | rfl | (simp [errW_none, errW_some] <;> rfl) | (simp [*, errW_none, errW_some] <;> rfl), by repeat (first | (with_reducible first | exact HB.out | apply below_alloc | apply pw_below_drewN | apply below_drew1 | refine below_set ?_ GE403.out) | exact HB.out)⟩
      ·replace c43 := Bool.eq_false_iff.mpr c43
       subst c43
       have H1 : (some false) = some r := by rw [if_neg (show ¬ (false = true) by decide)] at H; exact H
       clear H
       have H := H1
       clear H1
       obtain rfl := Option.some.inj H
       go_enter Tryz.func20, Tryz.ntmps20
       go_wp2_with (first | ((with_reducible refine gate_dst (N := 1) rfl ?_); (try (refine gate_guard (by rfl) ?_; dsimp only)); refine box_event ?hg (N := 1) ?hd (cs := #[.int .i64 a0_0, .slice A0_1 l0_1.length c0_1, .int .i64 a0_2, .int .i64 a0_3, .slice A0_4 l0_4.length c0_4]) (t := 27) ?hr ?_; (case hd => rfl); (case hg => rfl); (case hr => first | (go_simp; done) | (go_simp; rfl)); intro gb403 hg w47 hbox hb; have n0_ := aA (below_step mB hb); have n1_ := aA (hbox); have n2_ := aA ((bZ hg mB)); have n3_ := aA ((bZ hg mB)); clear HB; have HB := n0_; have BK403 := n1_; have GW403 := n2_; have GE403 := n3_; clear n0_ n1_ n2_ n3_ hb hbox hg; obtain ⟨hcz48_0, hcz48_1, hcz48_2, hcz48_3, hcz48_4⟩ := bC5 BK403.out; obtain ⟨hfz48_0, hfz48_1, hfz48_2, hfz48_3, hfz48_4⟩ := bF5 BK403.out) | (go_at_call 48; (with_reducible refine (label_Right.calls _ _ l0_1 false _ ?side1 ?side2 A42.out).mono ?_); (case side1 => exact mC ((Kd.C_below HR0_1.out HB.out))); (case side2 => exact HC0_1.out); rintro e w49 ⟨rfl, hb⟩; have n0_ := aA (bB BK403.out hb); have n1_ := aA (below_step (mD1 GE403.out) hb); clear BK403 HB; have BK403 := n0_; have HB := n1_; clear n0_ n1_; (try clear hb); (try clear hb2); (try clear hk); (try clear hi)))
       go_ret
       exact ⟨by first | rfl | (simp [errW_none, errW_some] <;> rfl) | (simp [*, errW_none, errW_some] <;> rfl), by repeat (first | (with_reducible first | exact HB.out | apply below_alloc | apply pw_below_drewN | apply below_drew1 | refine below_set ?_ GE403.out) | exact HB.out)⟩
     ·rw [if_neg c41] at H
      have c41b0 : (a0_0 == 1) = false := beq_eq_false_iff_ne.mpr c41
      have c41b1 : (a0_0 != 1) = true := bne_iff_ne.mpr c41
      obtain rfl := Option.some.inj H
      go_enter Tryz.func20, Tryz.ntmps20
      go_wp2_with (first | ((with_reducible refine gate_dst (N := 1) rfl ?_); (try (refine gate_guard (by rfl) ?_; dsimp only)); refine box_event ?hg (N := 1) ?hd (cs := #[.int .i64 a0_0, .slice A0_1 l0_1.length c0_1, .int .i64 a0_2, .int .i64 a0_3, .slice A0_4 l0_4.length c0_4]) (t := 27) ?hr ?_; (case hd => rfl); (case hg => rfl); (case hr => first | (go_simp; done) | (go_simp; rfl)); intro gb403 hg w50 hbox hb; have n0_ := aA (below_step mB hb); have n1_ := aA (hbox); have n2_ := aA ((bZ hg mB)); have n3_ := aA ((bZ hg mB)); clear HB; have HB := n0_; have BK403 := n1_; have GW403 := n2_; have GE403 := n3_; clear n0_ n1_ n2_ n3_ hb hbox hg; obtain ⟨hcz51_0, hcz51_1, hcz51_2, hcz51_3, hcz51_4⟩ := bC5 BK403.out; obtain ⟨hfz51_0, hfz51_1, hfz51_2, hfz51_3, hfz51_4⟩ := bF5 BK403.out))
      go_ret
      exact ⟨by first | rfl | (simp [errW_none, errW_some] <;> rfl) | (simp [*, errW_none, errW_some] <;> rfl), by repeat (first | (with_reducible first | exact HB.out | apply below_alloc | apply pw_below_drewN | apply below_drew1 | refine below_set ?_ GE403.out) | exact HB.out)⟩
  ·rw [if_neg c10] at H
   have c10b0 : (a0_2 == 0) = false := beq_eq_false_iff_ne.mpr c10
   have c10b1 : (a0_2 != 0) = true := bne_iff_ne.mpr c10
   by_cases c52 : a0_0 = 0
   ·rw [if_pos c52] at H
    have c52b0 : (a0_0 == 0) = true := beq_iff_eq.mpr c52
    have c52b1 : (a0_0 != 0) = false := bne_eq_false_iff_eq.mpr c52
    clear c52
    replace H := Option.bind_eq_some_iff.mp H
    obtain ⟨t409, A530, H⟩ := H
    have A53 := aA A530
    clear A530
    by_cases c54 : t409 = true
    ·subst c54
     have H1 : (some false) = some r := by rw [if_pos rfl] at H; exact H
     clear H
     have H := H1
     clear H1
     obtain rfl := Option.some.inj H
     go_enter Tryz.func20, Tryz.ntmps20
     go_wp2_with (first | ((with_reducible refine gate_dst (N := 1) rfl ?_); (try (refine gate_guard (by rfl) ?_; dsimp only)); refine box_event ?hg (N := 1) ?hd (cs := #[.int .i64 a0_0, .slice A0_1 l0_1.length c0_1, .int .i64 a0_2, .int .i64 a0_3, .slice A0_4 l0_4.length c0_4]) (t := 27) ?hr ?_; (case hd => rfl); (case hg => rfl); (case hr => first | (go_simp; done) | (go_simp; rfl)); intro gb403 hg w55 hbox hb; have n0_ := aA (below_step mB hb); have n1_ := aA (hbox); have n2_ := aA ((bZ hg mB)); have n3_ := aA ((bZ hg mB)); clear HB; have HB := n0_; have BK403 := n1_; have GW403 := n2_; have GE403 := n3_; clear n0_ n1_ n2_ n3_ hb hbox hg; obtain ⟨hcz56_0, hcz56_1, hcz56_2, hcz56_3, hcz56_4⟩ := bC5 BK403.out; obtain ⟨hfz56_0, hfz56_1, hfz56_2, hfz56_3, hfz56_4⟩ := bF5 BK403.out) | (go_at_call 48; (with_reducible refine (label_Right.calls _ _ l0_1 true _ ?side1 ?side2 A53.out).mono ?_); (case side1 => exact mC ((Kd.C_below HR0_1.out HB.out))); (case side2 => exact HC0_1.out); rintro e w57 ⟨rfl, hb⟩; have n0_ := aA (bB BK403.out hb); have n1_ := aA (below_step (mD1 GE403.out) hb); clear BK403 HB; have BK403 := n0_; have HB := n1_; clear n0_ n1_; (try clear hb); (try clear hb2); (try clear hk); (try clear hi)))
     go_ret
     exact ⟨by first | rfl | (simp [errW_none, errW_some] <;> rfl) | (simp [*, errW_none, errW_some] <;> rfl), by repeat (first | (with_reducible first | exact HB.out | apply below_alloc | apply pw_below_drewN | apply below_drew1 | refine below_set ?_ GE403.out) | exact HB.out)⟩
    ·replace c54 := Bool.eq_false_iff.mpr c54
     subst c54
     have H1 : (some false) = some r := by rw [if_neg (show ¬ (false = true) by decide)] at H; exact H
     clear H
     have H := H1
     clear H1
     obtain rfl := Option.some.inj H
     go_enter Tryz.func20, Tryz.ntmps20
     go_wp2_with (first | ((with_reducible refine gate_dst (N := 1) rfl ?_); (try (refine gate_guard (by rfl) ?_; dsimp only)); refine box_event ?hg (N := 1) ?hd (cs := #[.int .i64 a0_0, .slice A0_1 l0_1.length c0_1, .int .i64 a0_2, .int .i64 a0_3, .slice A0_4 l0_4.length c0_4]) (t := 27) ?hr ?_; (case hd => rfl); (case hg => rfl); (case hr => first | (go_simp; done) | (go_simp; rfl)); intro gb403 hg w58 hbox hb; have n0_ := aA (below_step mB hb); have n1_ := aA (hbox); have n2_ := aA ((bZ hg mB)); have n3_ := aA ((bZ hg mB)); clear HB; have HB := n0_; have BK403 := n1_; have GW403 := n2_; have GE403 := n3_; clear n0_ n1_ n2_ n3_ hb hbox hg; obtain ⟨hcz59_0, hcz59_1, hcz59_2, hcz59_3, hcz59_4⟩ := bC5 BK403.out; obtain ⟨hfz59_0, hfz59_1, hfz59_2, hfz59_3, hfz59_4⟩ := bF5 BK403.out) | (go_at_call 48; (with_reducible refine (label_Right.calls _ _ l0_1 false _ ?side1 ?side2 A53.out).mono ?_); (case side1 => exact mC ((Kd.C_below HR0_1.out HB.out))); (case side2 => exact HC0_1.out); rintro e w60 ⟨rfl, hb⟩; have n0_ := aA (bB BK403.out hb); have n1_ := aA (below_step (mD1 GE403.out) hb); clear BK403 HB; have BK403 := n0_; have HB := n1_; clear n0_ n1_; (try clear hb); (try clear hb2); (try clear hk); (try clear hi)))
     go_ret
     exact ⟨by first | rfl | (simp [errW_none, errW_some] <;> rfl) | (simp [*, errW_none, errW_some] <;> rfl), by repeat (first | (with_reducible first | exact HB.out | apply below_alloc | apply pw_below_drewN | apply below_drew1 | refine below_set ?_ GE403.out) | exact HB.out)⟩
   ·rw [if_neg c52] at H
    have c52b0 : (a0_0 == 0) = false := beq_eq_false_iff_ne.mpr c52
    have c52b1 : (a0_0 != 0) = true := bne_iff_ne.mpr c52
    by_cases c61 : a0_0 = 1
    ·rw [if_pos c61] at H
     have c61b0 : (a0_0 == 1) = true := beq_iff_eq.mpr c61
     have c61b1 : (a0_0 != 1) = false := bne_eq_false_iff_eq.mpr c61
     clear c61
     replace H := Option.bind_eq_some_iff.mp H
     obtain ⟨t410, A620, H⟩ := H
     have A62 := aA A620
     clear A620
     by_cases c63 : t410 = true
     ·subst c63
      have H1 : (some false) = some r := by rw [if_pos rfl] at H; exact H
      clear H
      have H := H1
      clear H1
      obtain rfl := Option.some.inj H
      go_enter Tryz.func20, Tryz.ntmps20
      go_wp2_with (first | ((with_reducible refine gate_dst (N := 1) rfl ?_); (try (refine gate_guard (by rfl) ?_; dsimp only)); refine box_event ?hg (N := 1) ?hd (cs := #[.int .i64 a0_0, .slice A0_1 l0_1.length c0_1, .int .i64 a0_2, .int .i64 a0_3, .slice A0_4 l0_4.length c0_4]) (t := 27) ?hr ?_; (case hd => rfl); (case hg => rfl); (case hr => first | (go_simp; done) | (go_simp; rfl)); intro gb403 hg w64 hbox hb; have n0_ := aA (below_step mB hb); have n1_ := aA (hbox); have n2_ := aA ((bZ hg mB)); have n3_ := aA ((bZ hg mB)); clear HB; have HB := n0_; have BK403 := n1_; have GW403 := n2_; have GE403 := n3_; clear n0_ n1_ n2_ n3_ hb hbox hg; obtain ⟨hcz65_0, hcz65_1, hcz65_2, hcz65_3, hcz65_4⟩ := bC5 BK403.out; obtain ⟨hfz65_0, hfz65_1, hfz65_2, hfz65_3, hfz65_4⟩ := bF5 BK403.out) | (go_at_call 48; (with_reducible refine (label_Right.calls _ _ l0_1 true _ ?side1 ?side2 A62.out).mono ?_); (case side1 => exact mC ((Kd.C_below HR0_1.out HB.out))); (case side2 => exact HC0_1.out); rintro e w66 ⟨rfl, hb⟩; have n0_ := aA (bB BK403.out hb); have n1_ := aA (below_step (mD1 GE403.out) hb); clear BK403 HB; have BK403 := n0_; have HB := n1_; clear n0_ n1_; (try clear hb); (try clear hb2); (try clear hk); (try clear hi)))
      go_ret
      exact ⟨by first | rfl | (simp [errW_none, errW_some] <;> rfl) | (simp [*, errW_none, errW_some] <;> rfl), by repeat (first | (with_reducible first | exact HB.out | apply below_alloc | apply pw_below_drewN | apply below_drew1 | refine below_set ?_ GE403.out) | exact HB.out)⟩
     ·replace c63 := Bool.eq_false_iff.mpr c63
      subst c63
      have H1 : (some false) = some r := by rw [if_neg (show ¬ (false = true) by decide)] at H; exact H
      clear H
      have H := H1
      clear H1
      obtain rfl := Option.some.inj H
      go_enter Tryz.func20, Tryz.ntmps20
      go_wp2_with (first | ((with_reducible refine gate_dst (N := 1) rfl ?_); (try (refine gate_guard (by rfl) ?_; dsimp only)); refine box_event ?hg (N := 1) ?hd (cs := #[.int .i64 a0_0, .slice A0_1 l0_1.length c0_1, .int .i64 a0_2, .int .i64 a0_3, .slice A0_4 l0_4.length c0_4]) (t := 27) ?hr ?_; (case hd => rfl); (case hg => rfl); (case hr => first | (go_simp; done) | (go_simp; rfl)); intro gb403 hg w67 hbox hb; have n0_ := aA (below_step mB hb); have n1_ := aA (hbox); have n2_ := aA ((bZ hg mB)); have n3_ := aA ((bZ hg mB)); clear HB; have HB := n0_; have BK403 := n1_; have GW403 := n2_; have GE403 := n3_; clear n0_ n1_ n2_ n3_ hb hbox hg; obtain ⟨hcz68_0, hcz68_1, hcz68_2, hcz68_3, hcz68_4⟩ := bC5 BK403.out; obtain ⟨hfz68_0, hfz68_1, hfz68_2, hfz68_3, hfz68_4⟩ := bF5 BK403.out) | (go_at_call 48; (with_reducible refine (label_Right.calls _ _ l0_1 false _ ?side1 ?side2 A62.out).mono ?_); (case side1 => exact mC ((Kd.C_below HR0_1.out HB.out))); (case side2 => exact HC0_1.out); rintro e w69 ⟨rfl, hb⟩; have n0_ := aA (bB BK403.out hb); have n1_ := aA (below_step (mD1 GE403.out) hb); clear BK403 HB; have BK403 := n0_; have HB := n1_; clear n0_ n1_; (try clear hb); (try clear hb2); (try clear hk); (try clear hi)))
      go_ret
      exact ⟨by first | rfl | (simp [errW_none, errW_some] <;> rfl) | (simp [*, errW_none, errW_some] <;> rfl), by repeat (first | (with_reducible first | exact HB.out | apply below_alloc | apply pw_below_drewN | apply below_drew1 | refine below_set ?_ GE403.out) | exact HB.out)⟩
    ·rw [if_neg c61] at H
     have c61b0 : (a0_0 == 1) = false := beq_eq_false_iff_ne.mpr c61
     have c61b1 : (a0_0 != 1) = true := bne_iff_ne.mpr c61
     obtain rfl := Option.some.inj H
     go_enter Tryz.func20, Tryz.ntmps20
     go_wp2_with (first | ((with_reducible refine gate_dst (N := 1) rfl ?_); (try (refine gate_guard (by rfl) ?_; dsimp only)); refine box_event ?hg (N := 1) ?hd (cs := #[.int .i64 a0_0, .slice A0_1 l0_1.length c0_1, .int .i64 a0_2, .int .i64 a0_3, .slice A0_4 l0_4.length c0_4]) (t := 27) ?hr ?_; (case hd => rfl); (case hg => rfl); (case hr => first | (go_simp; done) | (go_simp; rfl)); intro gb403 hg w70 hbox hb; have n0_ := aA (below_step mB hb); have n1_ := aA (hbox); have n2_ := aA ((bZ hg mB)); have n3_ := aA ((bZ hg mB)); clear HB; have HB := n0_; have BK403 := n1_; have GW403 := n2_; have GE403 := n3_; clear n0_ n1_ n2_ n3_ hb hbox hg; obtain ⟨hcz71_0, hcz71_1, hcz71_2, hcz71_3, hcz71_4⟩ := bC5 BK403.out; obtain ⟨hfz71_0, hfz71_1, hfz71_2, hfz71_3, hfz71_4⟩ := bF5 BK403.out))
     go_ret
     exact ⟨by first | rfl | (simp [errW_none, errW_some] <;> rfl) | (simp [*, errW_none, errW_some] <;> rfl), by repeat (first | (with_reducible first | exact HB.out | apply below_alloc | apply pw_below_drewN | apply below_drew1 | refine below_set ?_ GE403.out) | exact HB.out)⟩
end Go.Proofs.YtjfknmlchdifjaaGreatDoorQ.P
namespace Go.Proofs.YtjfknmlchdifjaaGreatDoorQ.P
open Go.RowKit Go.Proofs.YtjfknmlchdifjaaGreatDoorW.PrintWords Go.Proofs.YtjfknmlchdifjaaGreatDoorW.PrintLast Go.Proofs.YtjfknmlchdifjaaGreatDoorW.PrintMore
attribute [local go_sem] max2_int min2_int max_two min_two max_three min_three max_four min_four
mutual
def wire_Print.j0 : Nat → List ByteArray → Int → List (S52) → Int → Int → List (S32) → Option (ByteArray × Int)
 | 0, _, _, _, _, _, _ => none
 | k + 1, x4, x412000, x412001, x412002, x412003, x412004 => wire_Print.l0 k x4 x412001 (x412001.length : Int) 0 x412000 x412001 x412002 x412003 x412004
def wire_Print.l0 : Nat → List ByteArray → List (S52) → Int → Int → Int → List (S52) → Int → Int → List (S32) → Option (ByteArray × Int)
 | 0, _, _, _, _, _, _, _, _, _ => none
 | k + 1, x4, x32, x33, x34, x412000, x412001, x412002, x412003, x412004 => if x34 < x33 then (if 0 ≤ x34 then (if x34 < (x32.length : Int) then (if ((rd_T52 x32 x34).f0).size + 1 ≤ 9223372036854775807 then (if (((rd_T52 x32 x34).f0) ++ (⟨#[61]⟩ : ByteArray)).size + ((rd_T52 x32 x34).f1).size ≤ 9223372036854775807 then (if x4.length < 8796093022208 then (wire_Print.l0 k (x4 ++ [(((rd_T52 x32 x34).f0) ++ (⟨#[61]⟩ : ByteArray)) ++ ((rd_T52 x32 x34).f1)]) x32 x33 (wrap64 (x34 + 1)) x412000 x412001 x412002 x412003 x412004) else (none)) else (none)) else (none)) else (none)) else (none)) else (wire_Print.l1 k x4 x412004 (x412004.length : Int) 0)
def wire_Print.l1 : Nat → List ByteArray → List (S32) → Int → Int → Option (ByteArray × Int)
 | 0, _, _, _, _ => none
 | k + 1, x4, x50, x51, x52 => if x52 < x51 then (if 0 ≤ x52 then (if x52 < (x50.length : Int) then ((wire_Ask.f ((rd_T32 x50 x52).f0) ((rd_T32 x50 x52).f1) ((rd_T32 x50 x52).f2)).bind fun bt431 => (if x4.length < 8796093022208 then (wire_Print.l1 k (x4 ++ [bt431.1]) x50 x51 (wrap64 (x52 + 1))) else (none))) else (none)) else (none)) else ((strings_Join.f x4 (⟨#[32]⟩ : ByteArray)).bind fun t436 => (some (t436, 0)))
end
def wire_Print.f (k : Nat) (a0_0 : Int) (l0_1 : List (S52)) (a0_2 : Int) (a0_3 : Int) (l0_4 : List (S32)) : Option (ByteArray × Int) := (wire_Right.f a0_0 l0_1 a0_2 a0_3 l0_4).bind fun t412 => (if t412 = true then (if a0_0 = 1 then (wire_Print.j0 k (([(⟨#[100, 111, 110, 101]⟩ : ByteArray)] : List ByteArray)) a0_0 l0_1 a0_2 a0_3 l0_4) else (if a0_0 = 2 then ((strconv_Itoa.f a0_2).bind fun t419 => ((strconv_Itoa.f a0_3).bind fun t420 => (wire_Print.j0 k (([(⟨#[104, 117, 115, 104]⟩ : ByteArray), t419, t420] : List ByteArray)) a0_0 l0_1 a0_2 a0_3 l0_4))) else (wire_Print.j0 k (([(⟨#[102, 105, 114, 101]⟩ : ByteArray)] : List ByteArray)) a0_0 l0_1 a0_2 a0_3 l0_4))) else (some ((⟨#[]⟩ : ByteArray), 1)))
theorem wire_Print.mono_l : ∀ k, (∀ y0 y1 y2 y3 y4 y5, LeO (wire_Print.j0 k y0 y1 y2 y3 y4 y5) (wire_Print.j0 (k + 1) y0 y1 y2 y3 y4 y5)) ∧ (∀ y0 y1 y2 y3 y4 y5 y6 y7 y8, LeO (wire_Print.l0 k y0 y1 y2 y3 y4 y5 y6 y7 y8) (wire_Print.l0 (k + 1) y0 y1 y2 y3 y4 y5 y6 y7 y8)) ∧ (∀ y0 y1 y2 y3, LeO (wire_Print.l1 k y0 y1 y2 y3) (wire_Print.l1 (k + 1) y0 y1 y2 y3))
 | 0 => ⟨fun _ _ _ _ _ _ r h => by simp [wire_Print.j0] at h, fun _ _ _ _ _ _ _ _ _ r h => by simp [wire_Print.l0] at h, fun _ _ _ _ r h => by simp [wire_Print.l1] at h⟩
 | k + 1 => by
  obtain ⟨ih0, ih1, ih2⟩ := wire_Print.mono_l k
  refine ⟨?_, ?_, ?_⟩
  ·intro y0 y1 y2 y3 y4 y5
   unfold wire_Print.j0
   repeat' first
   | (with_reducible exact ih0 _ _ _ _ _ _)
   | (with_reducible exact ih1 _ _ _ _ _ _ _ _ _)
   | (with_reducible exact ih2 _ _ _ _)
   | (with_reducible exact LeO.refl _)
   | (with_reducible exact LeO.none _)
   | (with_reducible refine LeO.ite ?_ ?_)
   | (with_reducible refine LeO.bind ?_ (fun _ => ?_))
   | exact ih0 _ _ _ _ _ _
   | exact ih1 _ _ _ _ _ _ _ _ _
   | exact ih2 _ _ _ _
   | exact LeO.none _
   | refine LeO.ite ?_ ?_
   | refine LeO.bind ?_ (fun _ => ?_)
  ·intro y0 y1 y2 y3 y4 y5 y6 y7 y8
   unfold wire_Print.l0
   repeat' first
   | (with_reducible exact ih0 _ _ _ _ _ _)
   | (with_reducible exact ih1 _ _ _ _ _ _ _ _ _)
   | (with_reducible exact ih2 _ _ _ _)
   | (with_reducible exact LeO.refl _)
   | (with_reducible exact LeO.none _)
   | (with_reducible refine LeO.ite ?_ ?_)
   | (with_reducible refine LeO.bind ?_ (fun _ => ?_))
   | exact ih0 _ _ _ _ _ _
   | exact ih1 _ _ _ _ _ _ _ _ _
   | exact ih2 _ _ _ _
   | exact LeO.none _
   | refine LeO.ite ?_ ?_
   | refine LeO.bind ?_ (fun _ => ?_)
  ·intro y0 y1 y2 y3
   unfold wire_Print.l1
   repeat' first
   | (with_reducible exact ih0 _ _ _ _ _ _)
   | (with_reducible exact ih1 _ _ _ _ _ _ _ _ _)
   | (with_reducible exact ih2 _ _ _ _)
   | (with_reducible exact LeO.refl _)
   | (with_reducible exact LeO.none _)
   | (with_reducible refine LeO.ite ?_ ?_)
   | (with_reducible refine LeO.bind ?_ (fun _ => ?_))
   | exact ih0 _ _ _ _ _ _
   | exact ih1 _ _ _ _ _ _ _ _ _
   | exact ih2 _ _ _ _
   | exact LeO.none _
   | refine LeO.ite ?_ ?_
   | refine LeO.bind ?_ (fun _ => ?_)
theorem wire_Print.mono : ∀ a0 a1 a2 a3 a4 k, LeO (wire_Print.f k a0 a1 a2 a3 a4) (wire_Print.f (k + 1) a0 a1 a2 a3 a4) := by
 intro a0 a1 a2 a3 a4 k
 obtain ⟨ih0, ih1, ih2⟩ := wire_Print.mono_l k
 unfold wire_Print.f
 repeat' first
   | (with_reducible exact ih0 _ _ _ _ _ _)
   | (with_reducible exact ih1 _ _ _ _ _ _ _ _ _)
   | (with_reducible exact ih2 _ _ _ _)
   | (with_reducible exact LeO.refl _)
   | (with_reducible exact LeO.none _)
   | (with_reducible refine LeO.ite ?_ ?_)
   | (with_reducible refine LeO.bind ?_ (fun _ => ?_))
   | exact ih0 _ _ _ _ _ _
   | exact ih1 _ _ _ _ _ _ _ _ _
   | exact ih2 _ _ _ _
   | exact LeO.none _
   | refine LeO.ite ?_ ?_
   | refine LeO.bind ?_ (fun _ => ?_)
def wire_Print.T8 : Bool × List (List Nat × List Nat) := (true, [([], []), ([0], [0]), ([1], [1]), ([2], [2]), ([], []), ([4], [4]), ([5], [5]), ([6, 3], [6]), ([3, 7], [3, 7]), ([8, 7, 0, 1, 2, 3, 4, 5, 6, 7, 8], [8])])
def wire_Print.B8 : List Nat := [0, 1, 3, 7, 0, 16, 48, 127, 255, 511]
theorem wire_Print.tab8 : rtab .any (opsOf Tryz.f18 8) = wire_Print.T8 := by kernel_rfl
theorem wire_Print.bits8 : waitsOk wire_Print.T8.2 wire_Print.B8 = true := by kernel_rfl
set_option maxHeartbeats 8000000 in
set_option maxRecDepth 100000 in
theorem wire_Print.calls (k : Nat) (a0_0 : Int) (A0_1 : Option Addr) (c0_1 : Nat) (l0_1 : List (S52)) (a0_2 : Int) (a0_3 : Int) (A0_4 : Option Addr) (c0_4 : Nat) (l0_4 : List (S32)) (r1 : ByteArray) (r2 : Int) (w : World) (hG : GOK w) (hr0_1 : Kd.C k52 w A0_1 l0_1.length l0_1) (hc0_1 : l0_1.length ≤ c0_1) (hr0_4 : Kd.C k32 w A0_4 l0_4.length l0_4) (hc0_4 : l0_4.length ≤ c0_4) (h : wire_Print.f k a0_0 l0_1 a0_2 a0_3 l0_4 = some (r1, r2)) :
  Calls Tryz.prog 18 #[.agg #[.int .i64 a0_0, .slice A0_1 l0_1.length c0_1, .int .i64 a0_2, .int .i64 a0_3, .slice A0_4 l0_4.length c0_4]] w fun e w' => e = .returned (.tuple #[.string r1, .int .i64 r2]) ∧ Below w.heap.size w w' := by
 have hu27 := Tryz.underlying27
 have hu52 := Tryz.underlying52
 have hu32 := Tryz.underlying32
 have HR0_1 := aA hr0_1
 have HC0_1 := aA hc0_1
 clear hr0_1 hc0_1
 have HR0_4 := aA hr0_4
 have HC0_4 := aA hc0_4
 clear hr0_4 hc0_4
 have HG := aA hG
 clear hG
 have HB := aA (Below.refl w.heap.size w)
 have H : ((wire_Right.f a0_0 l0_1 a0_2 a0_3 l0_4).bind fun t412 => (if t412 = true then (if a0_0 = 1 then (wire_Print.j0 k (([(⟨#[100, 111, 110, 101]⟩ : ByteArray)] : List ByteArray)) a0_0 l0_1 a0_2 a0_3 l0_4) else (if a0_0 = 2 then ((strconv_Itoa.f a0_2).bind fun t419 => ((strconv_Itoa.f a0_3).bind fun t420 => (wire_Print.j0 k (([(⟨#[104, 117, 115, 104]⟩ : ByteArray), t419, t420] : List ByteArray)) a0_0 l0_1 a0_2 a0_3 l0_4))) else (wire_Print.j0 k (([(⟨#[102, 105, 114, 101]⟩ : ByteArray)] : List ByteArray)) a0_0 l0_1 a0_2 a0_3 l0_4))) else (some ((⟨#[]⟩ : ByteArray), 1)))) = some (r1, r2) := h
 clear h
 replace H := Option.bind_eq_some_iff.mp H
 obtain ⟨t412, A20, H⟩ := H
 replace H : (if t412 = true then (if a0_0 = 1 then (wire_Print.j0 k (([(⟨#[100, 111, 110, 101]⟩ : ByteArray)] : List ByteArray)) a0_0 l0_1 a0_2 a0_3 l0_4) else (if a0_0 = 2 then ((strconv_Itoa.f a0_2).bind fun t419 => ((strconv_Itoa.f a0_3).bind fun t420 => (wire_Print.j0 k (([(⟨#[104, 117, 115, 104]⟩ : ByteArray), t419, t420] : List ByteArray)) a0_0 l0_1 a0_2 a0_3 l0_4))) else (wire_Print.j0 k (([(⟨#[102, 105, 114, 101]⟩ : ByteArray)] : List ByteArray)) a0_0 l0_1 a0_2 a0_3 l0_4))) else (some ((⟨#[]⟩ : ByteArray), 1))) = some (r1, r2) := H
 have A2 := aA A20
 clear A20
 by_cases c3 : t412 = true
 ·subst c3
  have H1 : (if a0_0 = 1 then (wire_Print.j0 k (([(⟨#[100, 111, 110, 101]⟩ : ByteArray)] : List ByteArray)) a0_0 l0_1 a0_2 a0_3 l0_4) else (if a0_0 = 2 then ((strconv_Itoa.f a0_2).bind fun t419 => ((strconv_Itoa.f a0_3).bind fun t420 => (wire_Print.j0 k (([(⟨#[104, 117, 115, 104]⟩ : ByteArray), t419, t420] : List ByteArray)) a0_0 l0_1 a0_2 a0_3 l0_4))) else (wire_Print.j0 k (([(⟨#[102, 105, 114, 101]⟩ : ByteArray)] : List ByteArray)) a0_0 l0_1 a0_2 a0_3 l0_4))) = some (r1, r2) := by rw [if_pos rfl] at H; exact H
  clear H
  have H := H1
  clear H1
  obtain ⟨y413, hy413⟩ : ∃ y_ : List ByteArray, y_ = (([(⟨#[102, 105, 114, 101]⟩ : ByteArray)] : List ByteArray)) := ⟨_, rfl⟩
  replace H : (if a0_0 = 1 then (wire_Print.j0 k (([(⟨#[100, 111, 110, 101]⟩ : ByteArray)] : List ByteArray)) a0_0 l0_1 a0_2 a0_3 l0_4) else (if a0_0 = 2 then ((strconv_Itoa.f a0_2).bind fun t419 => ((strconv_Itoa.f a0_3).bind fun t420 => (wire_Print.j0 k (([(⟨#[104, 117, 115, 104]⟩ : ByteArray), t419, t420] : List ByteArray)) a0_0 l0_1 a0_2 a0_3 l0_4))) else (wire_Print.j0 k y413 a0_0 l0_1 a0_2 a0_3 l0_4))) = some (r1, r2) := by first | (rw [hy413]; with_reducible exact H) | (have H2_ := (Option.bind_some _ _).symm.trans H; rw [hy413]; with_reducible exact H2_) | (have H2_ := (Option.bind_some _ _).symm.trans H; with_reducible exact H2_) | with_reducible exact H | (rw [hy413]; exact H) | exact H
  have Ny413 := aA hy413
  clear hy413
  have HC4 := aA H
  clear H
  go_enter Tryz.func18, Tryz.ntmps18
  go_upto_block 0 with (first | ((with_reducible refine gate_dst (N := 1) rfl ?_); refine box_event ?hg (N := 1) ?hd (cs := #[.int .i64 a0_0, .slice A0_1 l0_1.length c0_1, .int .i64 a0_2, .int .i64 a0_3, .slice A0_4 l0_4.length c0_4]) (t := 27) ?hr ?_; (case hd => rfl); (case hg => rfl); (case hr => first | (go_simp; done) | (go_simp; rfl)); intro gb411 hg w5 hbox hb; have n0_ := aA (below_step mB hb); have n1_ := aA (hbox); have n2_ := aA ((bZ hg mB)); have n3_ := aA ((bZ hg mB)); clear HB; have HB := n0_; have BK411 := n1_; have GW411 := n2_; have GE411 := n3_; clear n0_ n1_ n2_ n3_ hb hbox hg; obtain ⟨hcz6_0, hcz6_1, hcz6_2, hcz6_3, hcz6_4⟩ := bC5 BK411.out; obtain ⟨hfz6_0, hfz6_1, hfz6_2, hfz6_3, hfz6_4⟩ := bF5 BK411.out) | ((with_reducible refine gate_callee (f := 20) rfl ?_); refine goesL_ (some 12) rfl rfl Tryz.func20 (by kernel_rfl) rfl #[.agg #[.int .i64 a0_0, .slice A0_1 l0_1.length c0_1, .int .i64 a0_2, .int .i64 a0_3, .slice A0_4 l0_4.length c0_4]] rfl mS ?_; (with_reducible refine (wire_Right.calls a0_0 _ _ l0_1 a0_2 a0_3 _ _ l0_4 true _ ?side1 ?side2 ?side3 ?side4 A2.out).mono ?_); (case side1 => exact mC ((Kd.C_below HR0_1.out HB.out))); (case side2 => exact HC0_1.out); (case side3 => exact mC ((Kd.C_below HR0_4.out HB.out))); (case side4 => exact HC0_4.out); rintro e w7 ⟨rfl, hb⟩; refine ⟨_, rfl, ?_⟩; have n0_ := aA (bB BK411.out hb); have n1_ := aA (below_step (mD1 GE411.out) hb); clear BK411 HB; have BK411 := n0_; have HB := n1_; clear n0_ n1_; (try clear hb); (try clear hb2); (try clear hk); (try clear hi)) | ((with_reducible refine gate_dst (N := 14) rfl ?_); refine Kd.R_lit Kd.string _ 9 ?hg (N := 14) ?hd (xs := ([(⟨#[102, 105, 114, 101]⟩ : ByteArray)] : List ByteArray)) (inner := [.string (⟨#[102, 105, 114, 101]⟩ : ByteArray)]) (ok := fun _ => True) (okp := fun _ => True) ?hr ?hp (fun _ hk => hk) trivial (Below.refl _ _) (Nat.le_refl _) (by simp) ?_; (case hd => rfl); (case hg => rfl); (case hr => first | (go_simp; done) | (go_simp; rfl)); (case hp => exact (Reps.one (show Kd.M Kd.string _ _ _ (⟨#[102, 105, 114, 101]⟩ : ByteArray) [.string (⟨#[102, 105, 114, 101]⟩ : ByteArray)] from rfl) (Reps.none _ _))); intro v414 w8 ho9 hb hg_ hnew_; clear hg_ hnew_; (first | rw [← Ny413.out] at ho9 | (simp only [Int.reduceToNat] at ho9; rw [← Ny413.out] at ho9)); have n0_ := aA (Kd.R_lower ho9 (below_size (mD1 GE411.out))); have n1_ := aA (bB BK411.out hb); have n2_ := aA (below_step (mD1 GE411.out) hb); clear BK411 HB; have HO415 := n0_; have BK411 := n1_; have HB := n2_; clear n0_ n1_ n2_ hb ho9; obtain ⟨hcz10_0, hcz10_1, hcz10_2, hcz10_3, hcz10_4⟩ := bC5 BK411.out; obtain ⟨hfz10_0, hfz10_1, hfz10_2, hfz10_3, hfz10_4⟩ := bF5 BK411.out))
  (try simp only [Act.put, List.setIfInBounds_toArray, List.set_cons_zero, List.set_cons_succ])
  go_cut [4] (fun v4 wc => ∃ (kq : Nat) (x4_3 : List ByteArray), Aside0 (wire_Print.j0 kq x4_3 a0_0 l0_1 a0_2 a0_3 l0_4 = some (r1, r2)) ∧ Aside0 (kq ≤ k) ∧ Aside0 (Kd.R Kd.string 9 wc w.heap.size (fun _ => True) v4 x4_3) ∧ Aside0 (wc.heap[gb411]? = some (.cells #[.int .i64 a0_0, (.slice A0_1 l0_1.length c0_1), .int .i64 a0_2, .int .i64 a0_3, (.slice A0_4 l0_4.length c0_4)] 27 (0, 0))) ∧ Aside0 (Below w.heap.size w wc))
  case first =>
   have H := HC4.out
   clear HC4
   by_cases c11 : a0_0 = 1
   ·rw [if_pos c11] at H
    have c11b0 : (a0_0 == 1) = true := beq_iff_eq.mpr c11
    have c11b1 : (a0_0 != 1) = false := bne_eq_false_iff_eq.mpr c11
    clear c11
    (first | rw [c11b0] | (simp only [i64_w, i32_w]; rw [c11b0]) | skip)
    obtain ⟨y416, hy416⟩ : ∃ y_ : List ByteArray, y_ = (([(⟨#[100, 111, 110, 101]⟩ : ByteArray)] : List ByteArray)) := ⟨_, rfl⟩
    replace H : (wire_Print.j0 k y416 a0_0 l0_1 a0_2 a0_3 l0_4) = some (r1, r2) := by first | (rw [hy416]; with_reducible exact H) | (have H2_ := (Option.bind_some _ _).symm.trans H; rw [hy416]; with_reducible exact H2_) | (have H2_ := (Option.bind_some _ _).symm.trans H; with_reducible exact H2_) | with_reducible exact H | (rw [hy416]; exact H) | exact H
    have Ny416 := aA hy416
    clear hy416
    have H' := aA H
    clear H
    go_wp2_with (first | ((with_reducible refine gate_dst (N := 19) rfl ?_); refine Kd.R_lit Kd.string _ 9 ?hg (N := 19) ?hd (xs := ([(⟨#[100, 111, 110, 101]⟩ : ByteArray)] : List ByteArray)) (inner := [.string (⟨#[100, 111, 110, 101]⟩ : ByteArray)]) (ok := fun _ => True) (okp := fun _ => True) ?hr ?hp (fun _ hk => hk) trivial (Below.refl _ _) (Nat.le_refl _) (by simp) ?_; (case hd => rfl); (case hg => rfl); (case hr => first | (go_simp; done) | (go_simp; rfl)); (case hp => exact (Reps.one (show Kd.M Kd.string _ _ _ (⟨#[100, 111, 110, 101]⟩ : ByteArray) [.string (⟨#[100, 111, 110, 101]⟩ : ByteArray)] from rfl) (Reps.none _ _))); intro v417 w12 ho13 hb hg_ hnew_; clear hg_ hnew_; (first | rw [← Ny416.out] at ho13 | (simp only [Int.reduceToNat] at ho13; rw [← Ny416.out] at ho13)); have n0_ := aA (Kd.R_elder' (mR HO415.out) (Kd.R_base ho13) hb); have n1_ := aA (Kd.R_lower (Kd.R_new' ho13 (Kd.R_lt (mR HO415.out))) (below_size (mD1 GE411.out))); have n2_ := aA (bB BK411.out hb); have n3_ := aA (below_step (mD1 GE411.out) hb); clear HO415 BK411 HB; have HO415 := n0_; have HO418 := n1_; have BK411 := n2_; have HB := n3_; clear n0_ n1_ n2_ n3_ hb ho13))
    go_meet
    case rel => exact ⟨_, (y416), H', ⟨by first | omega | exact Nat.le_refl _⟩, ⟨by (with_reducible repeat (first | apply Kd.R_alloc | apply Kd.R_drewN | apply Kd.R_drew)); exact Kd.R_mono HO418.out (fun _ hk => trivial)⟩, ⟨by (with_reducible repeat (first | refine blk_drewN ?_ _ | refine blk_drew ?_ | refine blk_alloc ?_ _)); exact BK411.out⟩, ⟨by repeat (first | (with_reducible first | exact HB.out | apply below_alloc | apply pw_below_drewN | apply below_drew1 | refine below_set ?_ GE411.out) | exact HB.out)⟩⟩
   ·rw [if_neg c11] at H
    have c11b0 : (a0_0 == 1) = false := beq_eq_false_iff_ne.mpr c11
    have c11b1 : (a0_0 != 1) = true := bne_iff_ne.mpr c11
    (first | rw [c11b0] | (simp only [i64_w, i32_w]; rw [c11b0]) | skip)
    by_cases c14 : a0_0 = 2
    ·rw [if_pos c14] at H
     have c14b0 : (a0_0 == 2) = true := beq_iff_eq.mpr c14
     have c14b1 : (a0_0 != 2) = false := bne_eq_false_iff_eq.mpr c14
     clear c14
     replace H := Option.bind_eq_some_iff.mp H
     obtain ⟨t419, A150, H⟩ := H
     replace H : ((strconv_Itoa.f a0_3).bind fun t420 => (wire_Print.j0 k (([(⟨#[104, 117, 115, 104]⟩ : ByteArray), t419, t420] : List ByteArray)) a0_0 l0_1 a0_2 a0_3 l0_4)) = some (r1, r2) := H
     have A15 := aA A150
     clear A150
     replace H := Option.bind_eq_some_iff.mp H
     obtain ⟨t420, A160, H⟩ := H
     replace H : (wire_Print.j0 k (([(⟨#[104, 117, 115, 104]⟩ : ByteArray), t419, t420] : List ByteArray)) a0_0 l0_1 a0_2 a0_3 l0_4) = some (r1, r2) := H
     have A16 := aA A160
     clear A160
     obtain ⟨y421, hy421⟩ : ∃ y_ : List ByteArray, y_ = (([(⟨#[104, 117, 115, 104]⟩ : ByteArray), t419, t420] : List ByteArray)) := ⟨_, rfl⟩
     replace H : (wire_Print.j0 k y421 a0_0 l0_1 a0_2 a0_3 l0_4) = some (r1, r2) := by first | (rw [hy421]; with_reducible exact H) | (have H2_ := (Option.bind_some _ _).symm.trans H; rw [hy421]; with_reducible exact H2_) | (have H2_ := (Option.bind_some _ _).symm.trans H; with_reducible exact H2_) | with_reducible exact H | (rw [hy421]; exact H) | exact H
     have Ny421 := aA hy421
     clear hy421
     have H' := aA H
     clear H
     try go_wp2
     have n0_ := aA (Kd.R_drew HO415.out)
     have n1_ := aA (blk_drew BK411.out)
     have n2_ := aA (below_drew1 HB.out)
     clear HO415
     clear BK411
     clear HB
     have HO415 := n0_
     have BK411 := n1_
     have HB := n2_
     clear n0_ n1_ n2_
     refine start_ (n := 10) (S := fun w' => w'.cell? ⟨gb411, 0, none⟩ = some (.int .i64 a0_0) ∧ w'.cell? ⟨gb411, 1, none⟩ = some (.slice A0_1 l0_1.length c0_1) ∧ w'.cell? ⟨gb411, 2, none⟩ = some (.int .i64 a0_2) ∧ w'.cell? ⟨gb411, 3, none⟩ = some (.int .i64 a0_3) ∧ w'.cell? ⟨gb411, 4, none⟩ = some (.slice A0_4 l0_4.length c0_4)) (ds := []) (bA 10 0) (by kernel_rfl) rfl rfl (bC5 BK411.out) (fun hHeld => ?_); refine with_tabW wire_Print.tab8 wire_Print.bits8 (fun HT_ HW_ => ?_)
     generalize w8.drew = w17 at HO415 BK411 HB hHeld ⊢
     refine pure_ (i := 0) (N := some 22) (v := ?_) (a' := ?_) (bA 10 1) rfl rfl (any_of HT_.out (by kernel_rfl)) (fun _ _ _ h => h) (Or.inl ⟨by rfl, ?_⟩) ?_ ?_
     rotate_left
     ·intro w'
      go_simp
      with_reducible rfl
     rotate_left
     ·exact mP
     refine pure_ (i := 1) (N := some 23) (v := ?_) (a' := ?_) (bA 10 3) rfl rfl (any_of HT_.out (by kernel_rfl)) (fun _ _ _ h => h) (Or.inl ⟨by rfl, ?_⟩) ?_ ?_
     rotate_left
     ·intro w'
      go_simp
      with_reducible rfl
     rotate_left
     ·exact mP
     refine pure_ (i := 4) (N := some 26) (v := ?_) (a' := ?_) (bA 10 19) rfl rfl (any_of HT_.out (by kernel_rfl)) (fun _ _ _ h => h) (Or.inl ⟨by rfl, ?_⟩) ?_ ?_
     rotate_left
     ·intro w'
      go_simp
      with_reducible rfl
     rotate_left
     ·exact mP
     refine pure_ (i := 5) (N := some 27) (v := ?_) (a' := ?_) (bA 10 51) rfl rfl (any_of HT_.out (by kernel_rfl)) (fun _ _ _ h => h) (Or.inl ⟨by rfl, ?_⟩) ?_ ?_
     rotate_left
     ·intro w'
      go_simp
      with_reducible rfl
     rotate_left
     ·exact mP
     refine take_ (i := 2) (N := some 24) (v := ?_) (a' := ?_) (bA 10 55) rfl rfl (take_ofW HT_.out HW_.out (by kernel_rfl)) (fun _ _ _ h => h) (Or.inl ⟨by rfl, ?_⟩) hHeld ?_ ?_
     rotate_left
     ·rintro w' ⟨s0, s1, s2, s3, s4⟩
      go_simp
      with_reducible rfl
     rotate_left
     ·exact mP
     refine take_ (i := 6) (N := some 28) (v := ?_) (a' := ?_) (bA 10 119) rfl rfl (take_ofW HT_.out HW_.out (by kernel_rfl)) (fun _ _ _ h => h) (Or.inl ⟨by rfl, ?_⟩) hHeld ?_ ?_
     rotate_left
     ·rintro w' ⟨s0, s1, s2, s3, s4⟩
      go_simp
      with_reducible rfl
     rotate_left
     ·exact mP
     refine one_ (i := 3) (N := some 25) (bA 10 127) rfl rfl (one_of HT_.out (by kernel_rfl)) (by decide) (fun K hK => ?_)
     refine goes_ Tryz.func45 (by kernel_rfl) rfl #[.int .i64 a0_2] (by rfl) rfl rfl mS ?_
     with_reducible refine (strconv_Itoa.calls a0_2 t419 _ ?side1 A15.out).mono ?_
     (case side1 => exact gok_below HG.out (mD1 GE411.out))
     rintro e w18 ⟨rfl, hb⟩
     refine ⟨_, rfl, ?_⟩
     have n0_ := aA (Kd.R_below (mR HO415.out) hb)
     have n1_ := aA (bB BK411.out hb)
     have n2_ := aA (below_step (mD1 GE411.out) hb)
     clear HO415
     clear BK411
     clear HB
     have HO415 := n0_
     have BK411 := n1_
     have HB := n2_
     clear n0_ n1_ n2_
     (try clear hb)
     (try clear hb2)
     (try clear hk)
     (try clear hi)
     refine hK.out _ _ (bC5 BK411.out) (fun hHeld => ?_)
     clear hK K
     refine norm_ (a' := ?_) ?_ ?_
     rotate_left
     ·show Act.put _ (some 25) _ = _
      simp only [Act.put, List.setIfInBounds_toArray, List.set_cons_zero, List.set_cons_succ, i64_w, i32_w]
      rfl
     refine one_ (i := 7) (N := some 29) (bA 10 255) rfl rfl (one_of HT_.out (by kernel_rfl)) (by decide) (fun K hK => ?_)
     refine goes_ Tryz.func45 (by kernel_rfl) rfl #[.int .i64 a0_3] (by rfl) rfl rfl mS ?_
     with_reducible refine (strconv_Itoa.calls a0_3 t420 _ ?side1 A16.out).mono ?_
     (case side1 => exact gok_below HG.out (mD1 GE411.out))
     rintro e w19 ⟨rfl, hb⟩
     refine ⟨_, rfl, ?_⟩
     have n0_ := aA (Kd.R_below (mR HO415.out) hb)
     have n1_ := aA (bB BK411.out hb)
     have n2_ := aA (below_step (mD1 GE411.out) hb)
     clear HO415
     clear BK411
     clear HB
     have HO415 := n0_
     have BK411 := n1_
     have HB := n2_
     clear n0_ n1_ n2_
     (try clear hb)
     (try clear hb2)
     (try clear hk)
     (try clear hi)
     refine hK.out _ _ (bC5 BK411.out) (fun hHeld => ?_)
     clear hK K
     refine norm_ (a' := ?_) ?_ ?_
     rotate_left
     ·show Act.put _ (some 29) _ = _
      simp only [Act.put, List.setIfInBounds_toArray, List.set_cons_zero, List.set_cons_succ, i64_w, i32_w]
      rfl
     refine one_ (i := 8) (N := some 30) (bA 10 511) rfl rfl (one_of HT_.out (by kernel_rfl)) (by decide) (fun K hK => ?_)
     refine Kd.R_lit_step Kd.string _ 9 ?hg (N := 30) ?hd (xs := ([(⟨#[104, 117, 115, 104]⟩ : ByteArray), t419, t420] : List ByteArray)) (inner := [.string (⟨#[104, 117, 115, 104]⟩ : ByteArray), .string t419, .string t420]) (ok := fun _ => True) (okp := fun _ => True) ?hr ?hp (fun _ hk => hk) trivial (Below.refl _ _) (Nat.le_refl _) (by simp) ?_; (case hd => rfl); (case hg => rfl); (case hr => first | (go_simp; done) | (go_simp; rfl)); (case hp => exact (Reps.one (show Kd.M Kd.string _ _ _ (⟨#[104, 117, 115, 104]⟩ : ByteArray) [.string (⟨#[104, 117, 115, 104]⟩ : ByteArray)] from rfl) (Reps.one (show Kd.M Kd.string _ _ _ t419 [.string t419] from rfl) (Reps.one (show Kd.M Kd.string _ _ _ t420 [.string t420] from rfl) (Reps.none _ _)))))
     intro v422 w20 ho21 hb hg_ hnew_
     clear hg_ hnew_
     (first | rw [← Ny421.out] at ho21 | (simp only [Int.reduceToNat] at ho21; rw [← Ny421.out] at ho21))
     have n0_ := aA (Kd.R_elder' (mR HO415.out) (Kd.R_base ho21) hb)
     have n1_ := aA (Kd.R_lower (Kd.R_new' ho21 (Kd.R_lt (mR HO415.out))) (below_size (mD1 GE411.out)))
     have n2_ := aA (bB BK411.out hb)
     have n3_ := aA (below_step (mD1 GE411.out) hb)
     clear HO415
     clear BK411
     clear HB
     have HO415 := n0_
     have HO423 := n1_
     have BK411 := n2_
     have HB := n3_
     clear n0_ n1_ n2_ n3_
     clear hb ho21
     refine hK.out _ _ (bC5 BK411.out) (fun hHeld => ?_)
     clear hK K
     refine norm_ (a' := ?_) ?_ ?_
     rotate_left
     ·show Act.put _ (some 30) _ = _
      simp only [Act.put, List.setIfInBounds_toArray, List.set_cons_zero, List.set_cons_succ, i64_w, i32_w]
      rfl
     refine pure_ (i := 9) (N := some 4) (v := ?_) (a' := ?_) (bA 10 1023) rfl rfl (any_of HT_.out (by kernel_rfl)) (fun _ _ _ h => h) (Or.inl ⟨by rfl, ?_⟩) ?_ ?_
     rotate_left
     ·intro w'
      go_simp
      with_reducible rfl
     rotate_left
     ·exact mP
     refine done_ (done_of HT_.out (by kernel_rfl)) ?_
     try go_wp2
     go_meet
     case rel => exact ⟨_, (y421), H', ⟨by first | omega | exact Nat.le_refl _⟩, ⟨by (with_reducible repeat (first | apply Kd.R_alloc | apply Kd.R_drewN | apply Kd.R_drew)); exact Kd.R_mono HO423.out (fun _ hk => trivial)⟩, ⟨by (with_reducible repeat (first | refine blk_drewN ?_ _ | refine blk_drew ?_ | refine blk_alloc ?_ _)); exact BK411.out⟩, ⟨by repeat (first | (with_reducible first | exact HB.out | apply below_alloc | apply pw_below_drewN | apply below_drew1 | refine below_set ?_ GE411.out) | exact HB.out)⟩⟩
    ·rw [if_neg c14] at H
     have c14b0 : (a0_0 == 2) = false := beq_eq_false_iff_ne.mpr c14
     have c14b1 : (a0_0 != 2) = true := bne_iff_ne.mpr c14
     have H' := aA H
     clear H
     go_wp2
     go_meet
     case rel => exact ⟨_, (y413), H', ⟨by first | omega | exact Nat.le_refl _⟩, ⟨by (with_reducible repeat (first | apply Kd.R_alloc | apply Kd.R_drewN | apply Kd.R_drew)); exact HO415.out⟩, ⟨by (with_reducible repeat (first | refine blk_drewN ?_ _ | refine blk_drew ?_ | refine blk_alloc ?_ _)); exact BK411.out⟩, ⟨by repeat (first | (with_reducible first | exact HB.out | apply below_alloc | apply pw_below_drewN | apply below_drew1 | refine below_set ?_ GE411.out) | exact HB.out)⟩⟩
  case rest =>
   clear HC4
   try clear c1
   try clear c2
   try clear p2
   try clear c3
   try clear c4
   try clear c11
   try clear c11b0
   try clear c11b1
   try clear c14
   try clear c14b0
   try clear c14b1
   try clear c18
   try clear c20
   try clear hcz10_0 hcz10_1 hcz10_2 hcz10_3 hcz10_4
   try clear hcz6_0 hcz6_1 hcz6_2 hcz6_3 hcz6_4
   try clear hfz10_0 hfz10_1 hfz10_2 hfz10_3 hfz10_4
   try clear hfz6_0 hfz6_1 hfz6_2 hfz6_3 hfz6_4
   obtain ⟨kq, x4_3, HA, HJ3, HO_4, BK411, HB⟩ := hcut
   cases kq with
   | zero => exact absurd HA.out (by simp [wire_Print.j0])
   | succ kj3 =>
    have H := HA.out
    clear HA
    simp only [wire_Print.j0] at H
    have H' := aA H
    clear H
    obtain ⟨hcz22_0, hcz22_1, hcz22_2, hcz22_3, hcz22_4⟩ := bC5 BK411.out
    obtain ⟨hfz22_0, hfz22_1, hfz22_2, hfz22_3, hfz22_4⟩ := bF5 BK411.out
    go_wp2
    go_loopg [4, 34] kj3 (fun kq v4 v34 w' => ∃ (x4_2 : List ByteArray) (x34_2 : Int), v34 = .int .i64 x34_2 ∧ Aside0 (wire_Print.l0 kq x4_2 l0_1 (l0_1.length : Int) x34_2 a0_0 l0_1 a0_2 a0_3 l0_4 = some (r1, r2)) ∧ Aside0 (kq ≤ kj3) ∧ Aside0 (Kd.R Kd.string 9 w' w.heap.size (fun _ => True) v4 x4_2) ∧ Aside0 (w'.heap[gb411]? = some (.cells #[.int .i64 a0_0, (.slice A0_1 l0_1.length c0_1), .int .i64 a0_2, .int .i64 a0_3, (.slice A0_4 l0_4.length c0_4)] 27 (0, 0))) ∧ Aside0 (Below w.heap.size w w'))
    case atStart => exact ⟨(x4_3), (0), (by first | rfl | (simp; done) | (simp [*]; done)), H', ⟨Nat.le_refl _⟩, ⟨by (with_reducible repeat (first | apply Kd.R_alloc | apply Kd.R_drewN | apply Kd.R_drew)); exact HO_4.out⟩, ⟨by (with_reducible repeat (first | refine blk_drewN ?_ _ | refine blk_drew ?_ | refine blk_alloc ?_ _)); exact BK411.out⟩, ⟨by repeat (first | (with_reducible first | exact HB.out | apply below_alloc | apply pw_below_drewN | apply below_drew1 | refine below_set ?_ GE411.out) | exact HB.out)⟩⟩
    case round =>
     clear H'
     try clear c1
     try clear c2
     try clear p2
     try clear c3
     try clear c4
     try clear c11
     try clear c11b0
     try clear c11b1
     try clear c14
     try clear c14b0
     try clear c14b1
     try clear c18
     try clear c20
     try clear hcz10_0 hcz10_1 hcz10_2 hcz10_3 hcz10_4
     try clear hcz22_0 hcz22_1 hcz22_2 hcz22_3 hcz22_4
     try clear hcz6_0 hcz6_1 hcz6_2 hcz6_3 hcz6_4
     try clear hfz10_0 hfz10_1 hfz10_2 hfz10_3 hfz10_4
     try clear hfz22_0 hfz22_1 hfz22_2 hfz22_3 hfz22_4
     try clear hfz6_0 hfz6_1 hfz6_2 hfz6_3 hfz6_4
     try clear p2
     obtain ⟨x4_2, x34_2, rfl, HA, HK2, HO_4, BK411, HB⟩ := hrel
     cases gk with
     | zero => exact absurd HA.out (by simp [wire_Print.l0])
     | succ k2 =>
      have H := HA.out
      clear HA
      simp only [wire_Print.l0] at H
      by_cases c23 : x34_2 < (l0_1.length : Int)
      ·rw [if_pos c23] at H
       have c23b0 : decide (x34_2 < (l0_1.length : Int)) = true := decide_eq_true c23
       clear c23
       by_cases c24 : 0 ≤ x34_2
       ·rw [if_pos c24] at H
        have c24b0 : decide (0 ≤ x34_2) = true := decide_eq_true c24
        clear c24
        by_cases c25 : x34_2 < (l0_1.length : Int)
        ·rw [if_pos c25] at H
         have c25b0 : decide (x34_2 < (l0_1.length : Int)) = true := decide_eq_true c25
         clear c25
         by_cases c26 : ((rd_T52 l0_1 x34_2).f0).size + 1 ≤ 9223372036854775807
         ·rw [if_pos c26] at H
          have c26b0 := eq_true c26
          have c26b1 := decide_eq_true c26
          try have c26b2 : (9223372036854775807 < ((rd_T52 l0_1 x34_2).f0).size + 1) = False := eq_false (Nat.not_lt.2 c26)
          by_cases c27 : (((rd_T52 l0_1 x34_2).f0) ++ (⟨#[61]⟩ : ByteArray)).size + ((rd_T52 l0_1 x34_2).f1).size ≤ 9223372036854775807
          ·rw [if_pos c27] at H
           have c27b0 := eq_true c27
           have c27b1 := decide_eq_true c27
           try have c27b2 : (9223372036854775807 < (((rd_T52 l0_1 x34_2).f0) ++ (⟨#[61]⟩ : ByteArray)).size + ((rd_T52 l0_1 x34_2).f1).size) = False := eq_false (Nat.not_lt.2 c27)
           try have c27b3 : (9223372036854775807 < ((rd_T52 l0_1 x34_2).f0).size + 1 + ((rd_T52 l0_1 x34_2).f1).size) = False := eq_false (by have h_ := c27; simp only [ByteArray.size_append] at h_; have : ((⟨#[61]⟩ : ByteArray)).size = 1 := rfl; omega)
           by_cases c28 : x4_2.length < 8796093022208
           ·rw [if_pos c28] at H
            have LMc28 := aA c28
            clear c28
            obtain ⟨y426, hy426⟩ : ∃ y_ : List ByteArray, y_ = (x4_2 ++ [(((rd_T52 l0_1 x34_2).f0) ++ (⟨#[61]⟩ : ByteArray)) ++ ((rd_T52 l0_1 x34_2).f1)]) := ⟨_, rfl⟩
            replace H : (wire_Print.l0 k2 y426 l0_1 (l0_1.length : Int) (wrap64 (x34_2 + 1)) a0_0 l0_1 a0_2 a0_3 l0_4) = some (r1, r2) := by first | (rw [hy426]; with_reducible exact H) | (have H2_ := (Option.bind_some _ _).symm.trans H; rw [hy426]; with_reducible exact H2_) | (have H2_ := (Option.bind_some _ _).symm.trans H; with_reducible exact H2_) | with_reducible exact H | (rw [hy426]; exact H) | exact H
            have Ny426 := aA hy426
            clear hy426
            have H' := aA H
            clear H
            have p424 : 0 ≤ (x34_2 : Int) := of_decide_eq_true (by first | (with_reducible assumption) | assumption)
            have q424 : x34_2 < (l0_1.length : Int) := of_decide_eq_true (by first | (with_reducible assumption) | assumption)
            obtain ⟨ad424, e424, hx424_0, hx424_1⟩ := at_T52 HR0_1.out x34_2 p424 q424
            cases e424
            replace hx424_0 := (HB.out.cell (World.block_lt_of_cell? w _ hx424_0)).trans hx424_0
            replace hx424_1 := (HB.out.cell (World.block_lt_of_cell? w _ hx424_1)).trans hx424_1
            replace p424 := eq_true p424
            replace q424 := eq_true q424
            go_wp2_with (first | ((with_reducible refine gate_dst (N := 6) rfl ?_); refine box_event ?hg (N := 6) ?hd (cs := #[.string (⟨#[]⟩ : ByteArray), .string (⟨#[]⟩ : ByteArray)]) (t := 52) ?hr ?_; (case hd => rfl); (case hg => rfl); (case hr => first | (go_simp; done) | (go_simp; rfl)); intro gb425 hg w29 hbox hb; have n0_ := aA (Kd.R_below (mR HO_4.out) hb); have n1_ := aA (bB BK411.out hb); have n2_ := aA (below_step (mD1 GE411.out) hb); have n3_ := aA (hbox); have n4_ := aA ((bZ hg (mD1 GE411.out))); have n5_ := aA ((bZ hg (mD1 GE411.out))); have n6_ := aA ((bL hg BK411.out)); have n7_ := aA ((bG hg BK411.out)); clear HO_4 BK411 HB; have HO_4 := n0_; have BK411 := n1_; have HB := n2_; have BK425 := n3_; have GW425 := n4_; have GE425 := n5_; have NB411_425 := n6_; have NB425_411 := n7_; clear n0_ n1_ n2_ n3_ n4_ n5_ n6_ n7_ hb hbox hg; have hnb30 := NB425_411.out; have hnc30 := NB411_425.out; obtain ⟨hcz31_0, hcz31_1⟩ := bC2 BK425.out; obtain ⟨hfz31_0, hfz31_1⟩ := bF2 BK425.out) | ((with_reducible refine gate_builtin (b := .append) (xs := #[.tmp 38, .tmp 45]) rfl ?_); at_builtin; refine Kd.R_append Kd.string (w0 := w) w.heap.size rfl (.tmp 38) (.tmp 45) 67 9 (.string ⟨#[]⟩) 16 rfl Tryz.underlying67 info9 rfl (by decide) (by omega) u4 x4_2 ((((rd_T52 l0_1 x34_2).f0) ++ (⟨#[61]⟩ : ByteArray)) ++ ((rd_T52 l0_1 x34_2).f1)) [.string ((((rd_T52 l0_1 x34_2).f0) ++ (⟨#[61]⟩ : ByteArray)) ++ ((rd_T52 l0_1 x34_2).f1))] (fun _ => True) (fun _ => False) rfl (by first | (go_simp; done) | (go_simp; rfl)) ?aP (fun _ hk => hk.elim) ?aF ?aO ?aB ?aS ?aL ?_; (case aP => exact rfl); (case aB => exact (mD2 GE411.out GE425.out)); (case aF => exact (fun _ _ => trivial)); (case aO => exact (by (with_reducible repeat (first | apply Kd.R_alloc | apply Kd.R_drewN | apply Kd.R_drew)); exact Kd.R_mono (rF 1 (rF 0 (Kd.R_types HO_4.out BK425.out (by decide)))) (fun _ hk => trivial))); (case aS => exact (below_size (mD2 GE411.out GE425.out))); (case aL => have := LMc28.out; omega); intro v427 w32 ho hb hg hat; rw [← Ny426.out] at ho; have n0_ := aA (blk_grown (g := gb411) (o := .cells #[.int .i64 a0_0, .slice (some ad424) l0_1.length c0_1, .int .i64 a0_2, .int .i64 a0_3, .slice A0_4 l0_4.length c0_4] 27 (0, 0)) (by (with_reducible repeat (first | refine blk_drewN ?_ _ | refine blk_drew ?_ | refine blk_alloc ?_ _)); refine blk_far ?_ NB411_425.out _; (with_reducible repeat (first | refine blk_drewN ?_ _ | refine blk_drew ?_ | refine blk_alloc ?_ _)); refine blk_far ?_ NB411_425.out _; (with_reducible repeat (first | refine blk_drewN ?_ _ | refine blk_drew ?_ | refine blk_alloc ?_ _)); exact BK411.out) hg (Kd.R_ne HO_4.out BK411.out (by decide))); have n1_ := aA (blk_grown (g := gb425) (o := .cells #[.string ((rd_T52 l0_1 x34_2).f0), .string ((rd_T52 l0_1 x34_2).f1)] 52 (0, 0)) (by (with_reducible repeat (first | refine blk_drewN ?_ _ | refine blk_drew ?_ | refine blk_alloc ?_ _)); have h_ := BK425.out; exact pK 1 (pK 0 (h_))) hg (Kd.R_ne HO_4.out BK425.out (by decide))); have n2_ := aA (hb); have n3_ := aA (ho); clear BK411 BK425 HB HO_4; have BK411 := n0_; have BK425 := n1_; have HB := n2_; have HO428 := n3_; clear n0_ n1_ n2_ n3_ ho hb hg hat))
            go_roundg k2
            case measure => have := HJ3.out; have := HK2.out; omega
            case rel => exact ⟨(y426), (wrap64 (x34_2 + 1)), (by first | rfl | (simp; done) | (simp [*]; done)), H', ⟨by have := HJ3.out; have := HK2.out; omega⟩, ⟨by (with_reducible repeat (first | apply Kd.R_alloc | apply Kd.R_drewN | apply Kd.R_drew)); exact HO428.out⟩, ⟨by (with_reducible repeat (first | refine blk_drewN ?_ _ | refine blk_drew ?_ | refine blk_alloc ?_ _)); exact BK411.out⟩, ⟨by repeat (first | (with_reducible first | exact HB.out | apply below_alloc | apply pw_below_drewN | apply below_drew1 | refine below_set ?_ GE411.out | refine below_set ?_ GE425.out) | exact HB.out)⟩⟩
           ·rw [if_neg c28] at H
            exact absurd H (by simp)
          ·rw [if_neg c27] at H
           exact absurd H (by simp)
         ·rw [if_neg c26] at H
          exact absurd H (by simp)
        ·rw [if_neg c25] at H
         exact absurd H (by simp)
       ·rw [if_neg c24] at H
        exact absurd H (by simp)
      ·rw [if_neg c23] at H
       have c23b0 : decide (x34_2 < (l0_1.length : Int)) = false := decide_eq_false c23
       clear c23
       have H' := aA H
       clear H
       obtain ⟨hcz33_0, hcz33_1, hcz33_2, hcz33_3, hcz33_4⟩ := bC5 BK411.out
       obtain ⟨hfz33_0, hfz33_1, hfz33_2, hfz33_3, hfz33_4⟩ := bF5 BK411.out
       go_wp2
       go_loopg [4, 52] k2 (fun kq v4 v52 w' => ∃ (x4_3 : List ByteArray) (x52_3 : Int), v52 = .int .i64 x52_3 ∧ Aside0 (wire_Print.l1 kq x4_3 l0_4 (l0_4.length : Int) x52_3 = some (r1, r2)) ∧ Aside0 (kq ≤ k2) ∧ Aside0 (Kd.R Kd.string 9 w' w.heap.size (fun _ => True) v4 x4_3) ∧ Aside0 (w'.heap[gb411]? = some (.cells #[.int .i64 a0_0, (.slice A0_1 l0_1.length c0_1), .int .i64 a0_2, .int .i64 a0_3, (.slice A0_4 l0_4.length c0_4)] 27 (0, 0))) ∧ Aside0 (Below w.heap.size w w'))
       case atStart => exact ⟨(x4_2), (0), (by first | rfl | (simp; done) | (simp [*]; done)), H', ⟨Nat.le_refl _⟩, ⟨by (with_reducible repeat (first | apply Kd.R_alloc | apply Kd.R_drewN | apply Kd.R_drew)); exact HO_4.out⟩, ⟨by (with_reducible repeat (first | refine blk_drewN ?_ _ | refine blk_drew ?_ | refine blk_alloc ?_ _)); exact BK411.out⟩, ⟨by repeat (first | (with_reducible first | exact HB.out | apply below_alloc | apply pw_below_drewN | apply below_drew1 | refine below_set ?_ GE411.out) | exact HB.out)⟩⟩
       case round =>
        clear H'
        try clear c1
        try clear c2
        try clear p2
        try clear c3
        try clear c4
        try clear p4
        try clear q4
        try clear hx4
        try clear p6
        try clear c11
        try clear c11b0
        try clear c11b1
        try clear c14
        try clear c14b0
        try clear c14b1
        try clear c18
        try clear c20
        try clear c23
        try clear c23b0
        try clear c24
        try clear c24b0
        try clear c25
        try clear c25b0
        try clear c26
        try clear c26b0
        try clear c26b1
        try clear c26b2
        try clear c27
        try clear c27b0
        try clear c27b1
        try clear c27b2
        try clear c28
        try clear c30
        try clear hcz10_0 hcz10_1 hcz10_2 hcz10_3 hcz10_4
        try clear hcz22_0 hcz22_1 hcz22_2 hcz22_3 hcz22_4
        try clear hcz31_0 hcz31_1
        try clear hcz33_0 hcz33_1 hcz33_2 hcz33_3 hcz33_4
        try clear hcz6_0 hcz6_1 hcz6_2 hcz6_3 hcz6_4
        try clear hfz10_0 hfz10_1 hfz10_2 hfz10_3 hfz10_4
        try clear hfz22_0 hfz22_1 hfz22_2 hfz22_3 hfz22_4
        try clear hfz31_0 hfz31_1
        try clear hfz33_0 hfz33_1 hfz33_2 hfz33_3 hfz33_4
        try clear hfz6_0 hfz6_1 hfz6_2 hfz6_3 hfz6_4
        try clear hx424_0
        try clear hx424_1
        try clear p2
        try clear p424
        try clear q424
        obtain ⟨x4_3, x52_3, rfl, HA, HK3, HO_4, BK411, HB⟩ := hrel
        cases gk with
        | zero => exact absurd HA.out (by simp [wire_Print.l1])
        | succ k3 =>
         have H := HA.out
         clear HA
         simp only [wire_Print.l1] at H
         by_cases c34 : x52_3 < (l0_4.length : Int)
         ·rw [if_pos c34] at H
          have c34b0 : decide (x52_3 < (l0_4.length : Int)) = true := decide_eq_true c34
          clear c34
          by_cases c35 : 0 ≤ x52_3
          ·rw [if_pos c35] at H
           have c35b0 : decide (0 ≤ x52_3) = true := decide_eq_true c35
           clear c35
           by_cases c36 : x52_3 < (l0_4.length : Int)
           ·rw [if_pos c36] at H
            have c36b0 : decide (x52_3 < (l0_4.length : Int)) = true := decide_eq_true c36
            clear c36
            replace H := Option.bind_eq_some_iff.mp H
            obtain ⟨⟨t431, t432⟩, A370, H⟩ := H
            replace H : (if x4_3.length < 8796093022208 then (wire_Print.l1 k3 (x4_3 ++ [t431]) l0_4 (l0_4.length : Int) (wrap64 (x52_3 + 1))) else (none)) = some (r1, r2) := H
            have A37 := aA A370
            clear A370
            by_cases c38 : x4_3.length < 8796093022208
            ·rw [if_pos c38] at H
             have LMc38 := aA c38
             clear c38
             obtain ⟨y433, hy433⟩ : ∃ y_ : List ByteArray, y_ = (x4_3 ++ [t431]) := ⟨_, rfl⟩
             replace H : (wire_Print.l1 k3 y433 l0_4 (l0_4.length : Int) (wrap64 (x52_3 + 1))) = some (r1, r2) := by first | (rw [hy433]; with_reducible exact H) | (have H2_ := (Option.bind_some _ _).symm.trans H; rw [hy433]; with_reducible exact H2_) | (have H2_ := (Option.bind_some _ _).symm.trans H; with_reducible exact H2_) | with_reducible exact H | (rw [hy433]; exact H) | exact H
             have Ny433 := aA hy433
             clear hy433
             have H' := aA H
             clear H
             have p429 : 0 ≤ (x52_3 : Int) := of_decide_eq_true (by first | (with_reducible assumption) | assumption)
             have q429 : x52_3 < (l0_4.length : Int) := of_decide_eq_true (by first | (with_reducible assumption) | assumption)
             obtain ⟨ad429, e429, hx429_0, hx429_1, hx429_2⟩ := at_T32 HR0_4.out x52_3 p429 q429
             cases e429
             replace hx429_0 := (HB.out.cell (World.block_lt_of_cell? w _ hx429_0)).trans hx429_0
             replace hx429_1 := (HB.out.cell (World.block_lt_of_cell? w _ hx429_1)).trans hx429_1
             replace hx429_2 := (HB.out.cell (World.block_lt_of_cell? w _ hx429_2)).trans hx429_2
             replace p429 := eq_true p429
             replace q429 := eq_true q429
             go_wp2_with (first | ((with_reducible refine gate_dst (N := 8) rfl ?_); refine box_event ?hg (N := 8) ?hd (cs := #[.int .i64 0, .string (⟨#[]⟩ : ByteArray), .string (⟨#[]⟩ : ByteArray)]) (t := 32) ?hr ?_; (case hd => rfl); (case hg => rfl); (case hr => first | (go_simp; done) | (go_simp; rfl)); intro gb430 hg w39 hbox hb; have n0_ := aA (Kd.R_below (mR HO_4.out) hb); have n1_ := aA (bB BK411.out hb); have n2_ := aA (below_step (mD1 GE411.out) hb); have n3_ := aA (hbox); have n4_ := aA ((bZ hg (mD1 GE411.out))); have n5_ := aA ((bZ hg (mD1 GE411.out))); have n6_ := aA ((bL hg BK411.out)); have n7_ := aA ((bG hg BK411.out)); clear HO_4 BK411 HB; have HO_4 := n0_; have BK411 := n1_; have HB := n2_; have BK430 := n3_; have GW430 := n4_; have GE430 := n5_; have NB411_430 := n6_; have NB430_411 := n7_; clear n0_ n1_ n2_ n3_ n4_ n5_ n6_ n7_ hb hbox hg; have hnb40 := NB430_411.out; have hnc40 := NB411_430.out; obtain ⟨hcz41_0, hcz41_1, hcz41_2⟩ := bC3 BK430.out; obtain ⟨hfz41_0, hfz41_1, hfz41_2⟩ := bF3 BK430.out) | ((with_reducible refine gate_callee (f := 19) rfl ?_); refine goesL_ (some 58) rfl rfl Tryz.func19 (by kernel_rfl) rfl #[.agg #[.int .i64 ((rd_T32 l0_4 x52_3).f0), .string ((rd_T32 l0_4 x52_3).f1), .string ((rd_T32 l0_4 x52_3).f2)]] rfl mS ?_; (with_reducible refine (wire_Ask.calls ((rd_T32 l0_4 x52_3).f0) ((rd_T32 l0_4 x52_3).f1) ((rd_T32 l0_4 x52_3).f2) t431 t432 _ A37.out).mono ?_); rintro e w42 ⟨rfl, hb⟩; refine ⟨_, rfl, ?_⟩; have n0_ := aA (Kd.R_below (by (with_reducible repeat (first | apply Kd.R_alloc | apply Kd.R_drewN | apply Kd.R_drew)); exact (Kd.R_mono (rF 2 (rF 1 (rF 0 (Kd.R_types HO_4.out BK430.out (by decide))))) (fun _ h_ => h_.1))) hb); have n1_ := aA (blk_below (g := gb411) (o := .cells #[.int .i64 a0_0, .slice A0_1 l0_1.length c0_1, .int .i64 a0_2, .int .i64 a0_3, .slice (some ad429) l0_4.length c0_4] 27 (0, 0)) (by (with_reducible repeat (first | refine blk_drewN ?_ _ | refine blk_drew ?_ | refine blk_alloc ?_ _)); refine blk_far ?_ NB411_430.out _; (with_reducible repeat (first | refine blk_drewN ?_ _ | refine blk_drew ?_ | refine blk_alloc ?_ _)); refine blk_far ?_ NB411_430.out _; (with_reducible repeat (first | refine blk_drewN ?_ _ | refine blk_drew ?_ | refine blk_alloc ?_ _)); refine blk_far ?_ NB411_430.out _; (with_reducible repeat (first | refine blk_drewN ?_ _ | refine blk_drew ?_ | refine blk_alloc ?_ _)); exact BK411.out) hb); have n2_ := aA (blk_below (g := gb430) (o := .cells #[.int .i64 ((rd_T32 l0_4 x52_3).f0), .string ((rd_T32 l0_4 x52_3).f1), .string ((rd_T32 l0_4 x52_3).f2)] 32 (0, 0)) (by (with_reducible repeat (first | refine blk_drewN ?_ _ | refine blk_drew ?_ | refine blk_alloc ?_ _)); have h_ := BK430.out; exact pK 2 (pK 1 (pK 0 (h_)))) hb); have n3_ := aA (below_step (mD2 GE411.out GE430.out) hb); clear HO_4 BK411 BK430 HB; have HO_4 := n0_; have BK411 := n1_; have BK430 := n2_; have HB := n3_; clear n0_ n1_ n2_ n3_; (try clear hb); (try clear hb2); (try clear hk); (try clear hi)) | ((with_reducible refine gate_builtin (b := .append) (xs := #[.tmp 61, .tmp 63]) rfl ?_); at_builtin; refine Kd.R_append Kd.string (w0 := w) w.heap.size rfl (.tmp 61) (.tmp 63) 67 9 (.string ⟨#[]⟩) 16 rfl Tryz.underlying67 info9 rfl (by decide) (by omega) u4 x4_3 t431 [.string t431] (fun _ => True) (fun _ => False) rfl rfl ?aP (fun _ hk => hk.elim) ?aF ?aO ?aB ?aS ?aL ?_; (case aP => exact rfl); (case aB => exact (mD2 GE411.out GE430.out)); (case aF => exact (fun _ _ => trivial)); (case aO => exact (mR HO_4.out)); (case aS => exact (below_size (mD2 GE411.out GE430.out))); (case aL => have := LMc38.out; omega); intro v434 w43 ho hb hg hat; rw [← Ny433.out] at ho; have n0_ := aA (blk_grown (g := gb411) (o := .cells #[.int .i64 a0_0, .slice A0_1 l0_1.length c0_1, .int .i64 a0_2, .int .i64 a0_3, .slice (some ad429) l0_4.length c0_4] 27 (0, 0)) (mK BK411.out) hg (Kd.R_ne HO_4.out BK411.out (by decide))); have n1_ := aA (blk_grown (g := gb430) (o := .cells #[.int .i64 ((rd_T32 l0_4 x52_3).f0), .string ((rd_T32 l0_4 x52_3).f1), .string ((rd_T32 l0_4 x52_3).f2)] 32 (0, 0)) (mK BK430.out) hg (Kd.R_ne HO_4.out BK430.out (by decide))); have n2_ := aA (hb); have n3_ := aA (ho); clear BK411 BK430 HB HO_4; have BK411 := n0_; have BK430 := n1_; have HB := n2_; have HO435 := n3_; clear n0_ n1_ n2_ n3_ ho hb hg hat))
             go_roundg k3
             case measure => have := HJ3.out; have := HK2.out; have := HK3.out; omega
             case rel => exact ⟨(y433), (wrap64 (x52_3 + 1)), (by first | rfl | (simp; done) | (simp [*]; done)), H', ⟨by have := HJ3.out; have := HK2.out; have := HK3.out; omega⟩, ⟨by (with_reducible repeat (first | apply Kd.R_alloc | apply Kd.R_drewN | apply Kd.R_drew)); exact HO435.out⟩, ⟨by (with_reducible repeat (first | refine blk_drewN ?_ _ | refine blk_drew ?_ | refine blk_alloc ?_ _)); exact BK411.out⟩, ⟨by repeat (first | (with_reducible first | exact HB.out | apply below_alloc | apply pw_below_drewN | apply below_drew1 | refine below_set ?_ GE411.out | refine below_set ?_ GE430.out) | exact HB.out)⟩⟩
            ·rw [if_neg c38] at H
             exact absurd H (by simp)
           ·rw [if_neg c36] at H
            exact absurd H (by simp)
          ·rw [if_neg c35] at H
           exact absurd H (by simp)
         ·rw [if_neg c34] at H
          have c34b0 : decide (x52_3 < (l0_4.length : Int)) = false := decide_eq_false c34
          clear c34
          replace H := Option.bind_eq_some_iff.mp H
          obtain ⟨t436, A440, H⟩ := H
          replace H : (some (t436, 0)) = some (r1, r2) := H
          have A44 := aA A440
          clear A440
          simp only [Option.some.injEq, Prod.mk.injEq] at H
          obtain ⟨rfl, rfl⟩ := H
          obtain ⟨Ao45, co45, eo45⟩ := Kd.R_slice HO_4.out
          subst eo45
          go_wp2_with (first | ((with_reducible refine gate_callee (f := 46) rfl ?_); refine goesL_ (some 67) rfl rfl Tryz.func46 (by kernel_rfl) rfl #[.slice Ao45 x4_3.length co45, .string (⟨#[32]⟩ : ByteArray)] rfl mS ?_; (with_reducible refine (strings_Join.calls _ _ x4_3 (⟨#[32]⟩ : ByteArray) t436 _ ?side1 ?side2 A44.out).mono ?_); (case side1 => exact mC ((Kd.R_reads' HO_4.out).2.2)); (case side2 => exact (Kd.R_reads' HO_4.out).2.1); rintro e w46 ⟨rfl, hb⟩; refine ⟨_, rfl, ?_⟩; have n0_ := aA (Kd.R_below (mR HO_4.out) hb); have n1_ := aA (bB BK411.out hb); have n2_ := aA (below_step (mD1 GE411.out) hb); clear HO_4 BK411 HB; have HO_4 := n0_; have BK411 := n1_; have HB := n2_; clear n0_ n1_ n2_; (try clear hb); (try clear hb2); (try clear hk); (try clear hi)))
          go_ret2
          exact ⟨by first | rfl | (simp [errW_none, errW_some] <;> rfl) | (simp [*, errW_none, errW_some] <;> rfl), by repeat (first | (with_reducible first | exact HB.out | apply below_alloc | apply pw_below_drewN | apply below_drew1 | refine below_set ?_ GE411.out) | exact HB.out)⟩
 ·replace c3 := Bool.eq_false_iff.mpr c3
  subst c3
  have H1 : (some ((⟨#[]⟩ : ByteArray), 1)) = some (r1, r2) := by rw [if_neg (show ¬ (false = true) by decide)] at H; exact H
  clear H
  have H := H1
  clear H1
  simp only [Option.some.injEq, Prod.mk.injEq] at H
  obtain ⟨rfl, rfl⟩ := H
  go_enter Tryz.func18, Tryz.ntmps18
  go_wp2_with (first | ((with_reducible refine gate_dst (N := 1) rfl ?_); refine box_event ?hg (N := 1) ?hd (cs := #[.int .i64 a0_0, .slice A0_1 l0_1.length c0_1, .int .i64 a0_2, .int .i64 a0_3, .slice A0_4 l0_4.length c0_4]) (t := 27) ?hr ?_; (case hd => rfl); (case hg => rfl); (case hr => first | (go_simp; done) | (go_simp; rfl)); intro gb411 hg w47 hbox hb; have n0_ := aA (below_step mB hb); have n1_ := aA (hbox); have n2_ := aA ((bZ hg mB)); have n3_ := aA ((bZ hg mB)); clear HB; have HB := n0_; have BK411 := n1_; have GW411 := n2_; have GE411 := n3_; clear n0_ n1_ n2_ n3_ hb hbox hg; obtain ⟨hcz48_0, hcz48_1, hcz48_2, hcz48_3, hcz48_4⟩ := bC5 BK411.out; obtain ⟨hfz48_0, hfz48_1, hfz48_2, hfz48_3, hfz48_4⟩ := bF5 BK411.out) | ((with_reducible refine gate_callee (f := 20) rfl ?_); refine goesL_ (some 12) rfl rfl Tryz.func20 (by kernel_rfl) rfl #[.agg #[.int .i64 a0_0, .slice A0_1 l0_1.length c0_1, .int .i64 a0_2, .int .i64 a0_3, .slice A0_4 l0_4.length c0_4]] rfl mS ?_; (with_reducible refine (wire_Right.calls a0_0 _ _ l0_1 a0_2 a0_3 _ _ l0_4 false _ ?side1 ?side2 ?side3 ?side4 A2.out).mono ?_); (case side1 => exact mC ((Kd.C_below HR0_1.out HB.out))); (case side2 => exact HC0_1.out); (case side3 => exact mC ((Kd.C_below HR0_4.out HB.out))); (case side4 => exact HC0_4.out); rintro e w49 ⟨rfl, hb⟩; refine ⟨_, rfl, ?_⟩; have n0_ := aA (bB BK411.out hb); have n1_ := aA (below_step (mD1 GE411.out) hb); clear BK411 HB; have BK411 := n0_; have HB := n1_; clear n0_ n1_; (try clear hb); (try clear hb2); (try clear hk); (try clear hi)))
  go_ret2
  exact ⟨by first | rfl | (simp [errW_none, errW_some] <;> rfl) | (simp [*, errW_none, errW_some] <;> rfl), by repeat (first | (with_reducible first | exact HB.out | apply below_alloc | apply pw_below_drewN | apply below_drew1 | refine below_set ?_ GE411.out) | exact HB.out)⟩
end Go.Proofs.YtjfknmlchdifjaaGreatDoorQ.P
namespace Go.Proofs.YtjfknmlchdifjaaGreatDoorQ.P
open Go.RowKit Go.Proofs.YtjfknmlchdifjaaGreatDoorW.PrintWords Go.Proofs.YtjfknmlchdifjaaGreatDoorW.PrintLast Go.Proofs.YtjfknmlchdifjaaGreatDoorW.PrintMore
attribute [local go_sem] max2_int min2_int max_two min_two max_three min_three max_four min_four
def foghornref05_Right.f (a0 : Int) : Option (Bool) := if a0 ≥ 0 then (some (decide (a0 ≤ 1099511627776))) else (some false)
end Go.Proofs.YtjfknmlchdifjaaGreatDoorQ.P
namespace Go.Proofs.YtjfknmlchdifjaaGreatDoorQ.P
open Go.RowKit Go.Proofs.YtjfknmlchdifjaaGreatDoorW.PrintWords Go.Proofs.YtjfknmlchdifjaaGreatDoorW.PrintLast Go.Proofs.YtjfknmlchdifjaaGreatDoorW.PrintMore
attribute [local go_sem] max2_int min2_int max_two min_two max_three min_three max_four min_four
def foghornref12_Hush.f (a0_0 : Int) (a0_1 : Int) (l0_2 : List (S32)) : Option (Bool) := (foghornref05_Right.f a0_0).bind fun t438 => (if t438 = true then ((foghornref05_Right.f a0_1).bind fun t439 => (if t439 = true then (if a0_0 < a0_1 then (if (l0_2.length : Int) ≥ 1 then ((foghornref10_Matchers.f l0_2).bind fun t440 => (some t440)) else (some false)) else (some false)) else (some false))) else (some false))
end Go.Proofs.YtjfknmlchdifjaaGreatDoorQ.P
namespace Go.Proofs.YtjfknmlchdifjaaGreatDoorQ.P
open Go.RowKit Go.Proofs.YtjfknmlchdifjaaGreatDoorW.PrintWords Go.Proofs.YtjfknmlchdifjaaGreatDoorW.PrintLast Go.Proofs.YtjfknmlchdifjaaGreatDoorW.PrintMore
attribute [local go_sem] max2_int min2_int max_two min_two max_three min_three max_four min_four
def foghornref12_Right.f (a0_0 : Int) (l0_1 : List (S52)) (a0_2 : Int) (a0_3 : Int) (l0_4 : List (S32)) : Option (Bool) := if a0_0 = 2 then (if (l0_1.length : Int) = 0 then ((foghornref12_Hush.f a0_2 a0_3 l0_4).bind fun t442 => (some t442)) else (some false)) else (if a0_0 = 0 then ((foghornref10_Right.f l0_1).bind fun t443 => (if t443 = true then (if a0_2 = 0 then (if a0_3 = 0 then (some ((l0_4.length : Int) == 0)) else (some false)) else (some false)) else (some false))) else (if a0_0 = 1 then ((foghornref10_Right.f l0_1).bind fun t444 => (if t444 = true then (if a0_2 = 0 then (if a0_3 = 0 then (some ((l0_4.length : Int) == 0)) else (some false)) else (some false)) else (some false))) else (some false)))
end Go.Proofs.YtjfknmlchdifjaaGreatDoorQ.P
namespace Go.Proofs.YtjfknmlchdifjaaGreatDoorQ.P
open Go.RowKit Go.Proofs.YtjfknmlchdifjaaGreatDoorW.PrintWords Go.Proofs.YtjfknmlchdifjaaGreatDoorW.PrintLast Go.Proofs.YtjfknmlchdifjaaGreatDoorW.PrintMore
attribute [local go_sem] max2_int min2_int max_two min_two max_three min_three max_four min_four
def foghornref12_Ask.f (a0_0 : Int) (a0_1 : ByteArray) (a0_2 : ByteArray) : Option (ByteArray) := (foghornref12_sign.f a0_0).bind fun t446 => (if a0_1.size + t446.size ≤ 9223372036854775807 then (if (a0_1 ++ t446).size + a0_2.size ≤ 9223372036854775807 then (some ((a0_1 ++ t446) ++ a0_2)) else (none)) else (none))
end Go.Proofs.YtjfknmlchdifjaaGreatDoorQ.P
namespace Go.Proofs.YtjfknmlchdifjaaGreatDoorQ.P
open Go.RowKit Go.Proofs.YtjfknmlchdifjaaGreatDoorW.PrintWords Go.Proofs.YtjfknmlchdifjaaGreatDoorW.PrintLast Go.Proofs.YtjfknmlchdifjaaGreatDoorW.PrintMore
attribute [local go_sem] max2_int min2_int max_two min_two max_three min_three max_four min_four
mutual
def foghornref12_Print.l0 : Nat → ByteArray → List (S32) → Int → Int → Option (ByteArray)
 | 0, _, _, _, _ => none
 | k + 1, x3, x25, x26, x27 => if x27 < x26 then (if 0 ≤ x27 then (if x27 < (x25.length : Int) then (if x3.size + 1 ≤ 9223372036854775807 then ((foghornref12_Ask.f ((rd_T32 x25 x27).f0) ((rd_T32 x25 x27).f1) ((rd_T32 x25 x27).f2)).bind fun t452 => (if (x3 ++ (⟨#[32]⟩ : ByteArray)).size + t452.size ≤ 9223372036854775807 then (foghornref12_Print.l0 k ((x3 ++ (⟨#[32]⟩ : ByteArray)) ++ t452) x25 x26 (wrap64 (x27 + 1))) else (none))) else (none)) else (none)) else (none)) else (some x3)
def foghornref12_Print.j1 : Nat → ByteArray → Int → List (S52) → Int → Int → List (S32) → Option (ByteArray)
 | 0, _, _, _, _, _, _ => none
 | k + 1, x6, x448000, x448001, x448002, x448003, x448004 => foghornref12_Print.l1 k x6 x448001 (x448001.length : Int) 0
def foghornref12_Print.l1 : Nat → ByteArray → List (S52) → Int → Int → Option (ByteArray)
 | 0, _, _, _, _ => none
 | k + 1, x6, x42, x43, x44 => if x44 < x43 then (if 0 ≤ x44 then (if x44 < (x42.length : Int) then (if x6.size + 1 ≤ 9223372036854775807 then (if (x6 ++ (⟨#[32]⟩ : ByteArray)).size + ((rd_T52 x42 x44).f0).size ≤ 9223372036854775807 then (if ((x6 ++ (⟨#[32]⟩ : ByteArray)) ++ ((rd_T52 x42 x44).f0)).size + 1 ≤ 9223372036854775807 then (if (((x6 ++ (⟨#[32]⟩ : ByteArray)) ++ ((rd_T52 x42 x44).f0)) ++ (⟨#[61]⟩ : ByteArray)).size + ((rd_T52 x42 x44).f1).size ≤ 9223372036854775807 then (foghornref12_Print.l1 k ((((x6 ++ (⟨#[32]⟩ : ByteArray)) ++ ((rd_T52 x42 x44).f0)) ++ (⟨#[61]⟩ : ByteArray)) ++ ((rd_T52 x42 x44).f1)) x42 x43 (wrap64 (x44 + 1))) else (none)) else (none)) else (none)) else (none)) else (none)) else (none)) else (some x6)
end
def foghornref12_Print.f (k : Nat) (a0_0 : Int) (l0_1 : List (S52)) (a0_2 : Int) (a0_3 : Int) (l0_4 : List (S32)) : Option (ByteArray) := if a0_0 = 2 then ((foghornref12_Digits.f k a0_2).bind fun t448 => (if 5 + t448.size ≤ 9223372036854775807 then (if ((⟨#[104, 117, 115, 104, 32]⟩ : ByteArray) ++ t448).size + 1 ≤ 9223372036854775807 then ((foghornref12_Digits.f k a0_3).bind fun t449 => (if (((⟨#[104, 117, 115, 104, 32]⟩ : ByteArray) ++ t448) ++ (⟨#[32]⟩ : ByteArray)).size + t449.size ≤ 9223372036854775807 then (foghornref12_Print.l0 k ((((⟨#[104, 117, 115, 104, 32]⟩ : ByteArray) ++ t448) ++ (⟨#[32]⟩ : ByteArray)) ++ t449) l0_4 (l0_4.length : Int) 0) else (none))) else (none)) else (none))) else (if a0_0 = 1 then (foghornref12_Print.j1 k (⟨#[100, 111, 110, 101]⟩ : ByteArray) a0_0 l0_1 a0_2 a0_3 l0_4) else (foghornref12_Print.j1 k (⟨#[102, 105, 114, 101]⟩ : ByteArray) a0_0 l0_1 a0_2 a0_3 l0_4))
theorem foghornref12_Print.mono_l : ∀ k, (∀ y0 y1 y2 y3, LeO (foghornref12_Print.l0 k y0 y1 y2 y3) (foghornref12_Print.l0 (k + 1) y0 y1 y2 y3)) ∧ (∀ y0 y1 y2 y3 y4 y5, LeO (foghornref12_Print.j1 k y0 y1 y2 y3 y4 y5) (foghornref12_Print.j1 (k + 1) y0 y1 y2 y3 y4 y5)) ∧ (∀ y0 y1 y2 y3, LeO (foghornref12_Print.l1 k y0 y1 y2 y3) (foghornref12_Print.l1 (k + 1) y0 y1 y2 y3))
 | 0 => ⟨fun _ _ _ _ r h => by simp [foghornref12_Print.l0] at h, fun _ _ _ _ _ _ r h => by simp [foghornref12_Print.j1] at h, fun _ _ _ _ r h => by simp [foghornref12_Print.l1] at h⟩
 | k + 1 => by
  obtain ⟨ih0, ih1, ih2⟩ := foghornref12_Print.mono_l k
  refine ⟨?_, ?_, ?_⟩
  ·intro y0 y1 y2 y3
   unfold foghornref12_Print.l0
   repeat' first
   | (with_reducible exact ih0 _ _ _ _)
   | (with_reducible exact ih1 _ _ _ _ _ _)
   | (with_reducible exact ih2 _ _ _ _)
   | (with_reducible exact foghornref12_Digits.mono _ _)
   | (with_reducible exact LeO.refl _)
   | (with_reducible exact LeO.none _)
   | (with_reducible refine LeO.ite ?_ ?_)
   | (with_reducible refine LeO.bind ?_ (fun _ => ?_))
   | exact ih0 _ _ _ _
   | exact ih1 _ _ _ _ _ _
   | exact ih2 _ _ _ _
   | exact foghornref12_Digits.mono _ _
   | exact LeO.none _
   | refine LeO.ite ?_ ?_
   | refine LeO.bind ?_ (fun _ => ?_)
  ·intro y0 y1 y2 y3 y4 y5
   unfold foghornref12_Print.j1
   repeat' first
   | (with_reducible exact ih0 _ _ _ _)
   | (with_reducible exact ih1 _ _ _ _ _ _)
   | (with_reducible exact ih2 _ _ _ _)
   | (with_reducible exact foghornref12_Digits.mono _ _)
   | (with_reducible exact LeO.refl _)
   | (with_reducible exact LeO.none _)
   | (with_reducible refine LeO.ite ?_ ?_)
   | (with_reducible refine LeO.bind ?_ (fun _ => ?_))
   | exact ih0 _ _ _ _
   | exact ih1 _ _ _ _ _ _
   | exact ih2 _ _ _ _
   | exact foghornref12_Digits.mono _ _
   | exact LeO.none _
   | refine LeO.ite ?_ ?_
   | refine LeO.bind ?_ (fun _ => ?_)
  ·intro y0 y1 y2 y3
   unfold foghornref12_Print.l1
   repeat' first
   | (with_reducible exact ih0 _ _ _ _)
   | (with_reducible exact ih1 _ _ _ _ _ _)
   | (with_reducible exact ih2 _ _ _ _)
   | (with_reducible exact foghornref12_Digits.mono _ _)
   | (with_reducible exact LeO.refl _)
   | (with_reducible exact LeO.none _)
   | (with_reducible refine LeO.ite ?_ ?_)
   | (with_reducible refine LeO.bind ?_ (fun _ => ?_))
   | exact ih0 _ _ _ _
   | exact ih1 _ _ _ _ _ _
   | exact ih2 _ _ _ _
   | exact foghornref12_Digits.mono _ _
   | exact LeO.none _
   | refine LeO.ite ?_ ?_
   | refine LeO.bind ?_ (fun _ => ?_)
theorem foghornref12_Print.mono : ∀ a0 a1 a2 a3 a4 k, LeO (foghornref12_Print.f k a0 a1 a2 a3 a4) (foghornref12_Print.f (k + 1) a0 a1 a2 a3 a4) := by
 intro a0 a1 a2 a3 a4 k
 obtain ⟨ih0, ih1, ih2⟩ := foghornref12_Print.mono_l k
 unfold foghornref12_Print.f
 repeat' first
   | (with_reducible exact ih0 _ _ _ _)
   | (with_reducible exact ih1 _ _ _ _ _ _)
   | (with_reducible exact ih2 _ _ _ _)
   | (with_reducible exact foghornref12_Digits.mono _ _)
   | (with_reducible exact LeO.refl _)
   | (with_reducible exact LeO.none _)
   | (with_reducible refine LeO.ite ?_ ?_)
   | (with_reducible refine LeO.bind ?_ (fun _ => ?_))
   | exact ih0 _ _ _ _
   | exact ih1 _ _ _ _ _ _
   | exact ih2 _ _ _ _
   | exact foghornref12_Digits.mono _ _
   | exact LeO.none _
   | refine LeO.ite ?_ ?_
   | refine LeO.bind ?_ (fun _ => ?_)
end Go.Proofs.YtjfknmlchdifjaaGreatDoorQ.P
namespace Go.Proofs.YtjfknmlchdifjaaGreatDoorQ.P
open Go.RowKit Go.Proofs.YtjfknmlchdifjaaGreatDoorW.PrintWords Go.Proofs.YtjfknmlchdifjaaGreatDoorW.PrintLast Go.Proofs.YtjfknmlchdifjaaGreatDoorW.PrintMore
attribute [local go_sem] max2_int min2_int max_two min_two max_three min_three max_four min_four
mutual
def foghornlaw12_WirePrints.j0 : Nat → ByteArray → Int → ByteArray → Int → Bool → Int → List (S52) → Int → Int → List (S32) → Int → ByteArray → ByteArray → Option (Bool)
 | 0, _, _, _, _, _, _, _, _, _, _, _, _, _ => none
 | k + 1, x5, x6, x7, x8, x31, x456000, x456001, x456002, x456003, x456004, x457000, x457001, x457002 => if x31 = true then (some false) else ((foghornref10_Matcher.f x457000 x457001 x457002).bind fun t476 => (if t476 = true then (if x8 = 0 then ((foghornref12_Ask.f x457000 x457001 x457002).bind fun t477 => (if x7.toList = t477.toList then (foghornlaw12_WirePrints.j1 k x5 x6 x456000 x456001 x456002 x456003 x456004) else (some false))) else (some false)) else (if x8 = 1 then (if x7.toList = ([] : List UInt8) then (foghornlaw12_WirePrints.j1 k x5 x6 x456000 x456001 x456002 x456003 x456004) else (some false)) else (some false))))
def foghornlaw12_WirePrints.j1 : Nat → ByteArray → Int → Int → List (S52) → Int → Int → List (S32) → Option (Bool)
 | 0, _, _, _, _, _, _, _ => none
 | k + 1, x5, x6, x456000, x456001, x456002, x456003, x456004 => (foghornref12_Right.f x456000 x456001 x456002 x456003 x456004).bind fun t478 => (if t478 = true then (if x6 = 0 then ((foghornref12_Print.f k x456000 x456001 x456002 x456003 x456004).bind fun t479 => (some (x5.toList == t479.toList))) else (some false)) else (if x6 = 1 then (some (x5.toList == ([] : List UInt8))) else (some false)))
end
theorem foghornlaw12_WirePrints.mono_l : ∀ k, (∀ y0 y1 y2 y3 y4 y5 y6 y7 y8 y9 y10 y11 y12, LeO (foghornlaw12_WirePrints.j0 k y0 y1 y2 y3 y4 y5 y6 y7 y8 y9 y10 y11 y12) (foghornlaw12_WirePrints.j0 (k + 1) y0 y1 y2 y3 y4 y5 y6 y7 y8 y9 y10 y11 y12)) ∧ (∀ y0 y1 y2 y3 y4 y5 y6, LeO (foghornlaw12_WirePrints.j1 k y0 y1 y2 y3 y4 y5 y6) (foghornlaw12_WirePrints.j1 (k + 1) y0 y1 y2 y3 y4 y5 y6))
 | 0 => ⟨fun _ _ _ _ _ _ _ _ _ _ _ _ _ r h => by simp [foghornlaw12_WirePrints.j0] at h, fun _ _ _ _ _ _ _ r h => by simp [foghornlaw12_WirePrints.j1] at h⟩
 | k + 1 => by
  obtain ⟨ih0, ih1⟩ := foghornlaw12_WirePrints.mono_l k
  refine ⟨?_, ?_⟩
  ·intro y0 y1 y2 y3 y4 y5 y6 y7 y8 y9 y10 y11 y12
   unfold foghornlaw12_WirePrints.j0
   repeat' first
   | (with_reducible exact ih0 _ _ _ _ _ _ _ _ _ _ _ _ _)
   | (with_reducible exact ih1 _ _ _ _ _ _ _)
   | (with_reducible exact foghornlaw12_alive.mono _)
   | (with_reducible exact foghornlaw12_few.mono _ _ _ _ _ _)
   | (with_reducible exact foghornref12_Print.mono _ _ _ _ _ _)
   | (with_reducible exact wire_Print.mono _ _ _ _ _ _)
   | (with_reducible exact LeO.refl _)
   | (with_reducible exact LeO.none _)
   | (with_reducible refine LeO.ite ?_ ?_)
   | (with_reducible refine LeO.bind ?_ (fun _ => ?_))
   | exact ih0 _ _ _ _ _ _ _ _ _ _ _ _ _
   | exact ih1 _ _ _ _ _ _ _
   | exact foghornlaw12_alive.mono _
   | exact foghornlaw12_few.mono _ _ _ _ _ _
   | exact foghornref12_Print.mono _ _ _ _ _ _
   | exact wire_Print.mono _ _ _ _ _ _
   | exact LeO.none _
   | refine LeO.ite ?_ ?_
   | refine LeO.bind ?_ (fun _ => ?_)
  ·intro y0 y1 y2 y3 y4 y5 y6
   unfold foghornlaw12_WirePrints.j1
   repeat' first
   | (with_reducible exact ih0 _ _ _ _ _ _ _ _ _ _ _ _ _)
   | (with_reducible exact ih1 _ _ _ _ _ _ _)
   | (with_reducible exact foghornlaw12_alive.mono _)
   | (with_reducible exact foghornlaw12_few.mono _ _ _ _ _ _)
   | (with_reducible exact foghornref12_Print.mono _ _ _ _ _ _)
   | (with_reducible exact wire_Print.mono _ _ _ _ _ _)
   | (with_reducible exact LeO.refl _)
   | (with_reducible exact LeO.none _)
   | (with_reducible refine LeO.ite ?_ ?_)
   | (with_reducible refine LeO.bind ?_ (fun _ => ?_))
   | exact ih0 _ _ _ _ _ _ _ _ _ _ _ _ _
   | exact ih1 _ _ _ _ _ _ _
   | exact foghornlaw12_alive.mono _
   | exact foghornlaw12_few.mono _ _ _ _ _ _
   | exact foghornref12_Print.mono _ _ _ _ _ _
   | exact wire_Print.mono _ _ _ _ _ _
   | exact LeO.none _
   | refine LeO.ite ?_ ?_
   | refine LeO.bind ?_ (fun _ => ?_)
def foghornlaw12_WirePrints.T4 : Bool × List (List Nat × List Nat) := (true, [([], []), ([0], [0]), ([], []), ([2, 1], [2]), ([1, 3], [1, 3]), ([4, 3], [4]), ([5, 5], [5]), ([6, 5], [5, 6]), ([5, 7], [5, 7])])
def foghornlaw12_WirePrints.B4 : List Nat := [0, 1, 0, 7, 15, 31, 63, 127, 255]
theorem foghornlaw12_WirePrints.tab4 : rtab .any (opsOf Tryz.f4 4) = foghornlaw12_WirePrints.T4 := by kernel_rfl
theorem foghornlaw12_WirePrints.bits4 : waitsOk foghornlaw12_WirePrints.T4.2 foghornlaw12_WirePrints.B4 = true := by kernel_rfl
end Go.Proofs.YtjfknmlchdifjaaGreatDoorQ.P
namespace Go.Proofs.YtjfknmlchdifjaaGreatDoorQ.P
open Go.RowKit Go.Proofs.YtjfknmlchdifjaaGreatDoorW.PrintWords Go.Proofs.YtjfknmlchdifjaaGreatDoorW.PrintLast Go.Proofs.YtjfknmlchdifjaaGreatDoorW.PrintMore
attribute [local go_sem] max2_int min2_int max_two min_two max_three min_three max_four min_four
def foghornlaw12_WireBack.j0 : Nat → ByteArray → Option (Bool)
 | 0, _ => none
 | k + 1, x1 => (wire_Parse.f k x1).bind fun bt504 => (if bt504.2.2.2.2.2 = 0 then ((wire_Print.f k bt504.1 bt504.2.1 bt504.2.2.1 bt504.2.2.2.1 bt504.2.2.2.2.1).bind fun bt517 => ((wire_Parse.f k bt517.1).bind fun bt519 => ((foghornlaw12_alive.f k).bind fun t530 => (if t530 = true then ((wire_Right.f bt504.1 bt504.2.1 bt504.2.2.1 bt504.2.2.2.1 bt504.2.2.2.2.1).bind fun t531 => (if t531 = true then (if bt517.2 = 0 then (if bt519.2.2.2.2.2 = 0 then ((foghornref12_Same.f k bt504.1 bt504.2.1 bt504.2.2.1 bt504.2.2.2.1 bt504.2.2.2.2.1 bt519.1 bt519.2.1 bt519.2.2.1 bt519.2.2.2.1 bt519.2.2.2.2.1).bind fun t532 => (some t532)) else (some false)) else (some false)) else (some false))) else (some false))))) else ((foghornlaw12_alive.f k).bind fun t515 => (if t515 = true then ((foghornref12_Same.f k bt504.1 bt504.2.1 bt504.2.2.1 bt504.2.2.2.1 bt504.2.2.2.2.1 0 ([] : List (S52)) 0 0 ([] : List (S32))).bind fun t516 => (some t516)) else (some false))))
theorem foghornlaw12_WireBack.mono_l : ∀ k, (∀ y0, LeO (foghornlaw12_WireBack.j0 k y0) (foghornlaw12_WireBack.j0 (k + 1) y0))
 | 0 => fun _ r h => by simp [foghornlaw12_WireBack.j0] at h
 | k + 1 => by
  have ih0 := foghornlaw12_WireBack.mono_l k
  ·intro y0
   unfold foghornlaw12_WireBack.j0
   repeat' first
   | (with_reducible exact ih0 _)
   | (with_reducible exact foghornlaw12_alive.mono _)
   | (with_reducible exact foghornlaw12_few.mono _ _ _ _ _ _)
   | (with_reducible exact foghornref12_Same.mono _ _ _ _ _ _ _ _ _ _ _)
   | (with_reducible exact wire_Parse.mono _ _)
   | (with_reducible exact wire_Print.mono _ _ _ _ _ _)
   | (with_reducible exact LeO.refl _)
   | (with_reducible exact LeO.none _)
   | (with_reducible refine LeO.ite ?_ ?_)
   | (with_reducible refine LeO.bind ?_ (fun _ => ?_))
   | exact ih0 _
   | exact foghornlaw12_alive.mono _
   | exact foghornlaw12_few.mono _ _ _ _ _ _
   | exact foghornref12_Same.mono _ _ _ _ _ _ _ _ _ _ _
   | exact wire_Parse.mono _ _
   | exact wire_Print.mono _ _ _ _ _ _
   | exact LeO.none _
   | refine LeO.ite ?_ ?_
   | refine LeO.bind ?_ (fun _ => ?_)
def foghornlaw12_WireBack.T1 : Bool × List (List Nat × List Nat) := (true, [([], []), ([0], [0]), ([], []), ([], []), ([3], [3]), ([4], [4]), ([2, 5], [2, 5]), ([1, 1, 0, 1], [1]), ([6, 7, 0, 1, 2, 3, 4, 5, 6, 7], [2, 3, 6])])
def foghornlaw12_WireBack.B1 : List Nat := [0, 1, 0, 0, 8, 24, 60, 3, 255]
theorem foghornlaw12_WireBack.tab1 : rtab .any (opsOf Tryz.f5 1) = foghornlaw12_WireBack.T1 := by kernel_rfl
theorem foghornlaw12_WireBack.bits1 : waitsOk foghornlaw12_WireBack.T1.2 foghornlaw12_WireBack.B1 = true := by kernel_rfl
end Go.Proofs.YtjfknmlchdifjaaGreatDoorQ.P
namespace Go.Proofs.YtjfknmlchdifjaaGreatDoorQ.P
open Go.RowKit Go.Proofs.YtjfknmlchdifjaaGreatDoorW.PrintWords Go.Proofs.YtjfknmlchdifjaaGreatDoorW.PrintLast Go.Proofs.YtjfknmlchdifjaaGreatDoorW.PrintMore
attribute [local go_sem] max2_int min2_int max_two min_two max_three min_three max_four min_four
mutual
def foghornlaw12_WireOrder.j0 : Nat → Int → ByteArray → Bool → Int → List (S52) → Int → Int → List (S32) → Option (Bool)
 | 0, _, _, _, _, _, _, _, _ => none
 | k + 1, x1, x5, x28, x534000, x534001, x534002, x534003, x534004 => if x28 = true then ((foghornlaw12_alive.f k).bind fun t545 => (some t545)) else (if x534000 = 1 then (foghornlaw12_WireOrder.j1 k x1 x5 (⟨#[100, 111, 110, 101]⟩ : ByteArray) x534000 x534001 x534002 x534003 x534004) else (foghornlaw12_WireOrder.j1 k x1 x5 (⟨#[102, 105, 114, 101]⟩ : ByteArray) x534000 x534001 x534002 x534003 x534004))
def foghornlaw12_WireOrder.j1 : Nat → Int → ByteArray → ByteArray → Int → List (S52) → Int → Int → List (S32) → Option (Bool)
 | 0, _, _, _, _, _, _, _, _ => none
 | k + 1, x1, x5, x7, x534000, x534001, x534002, x534003, x534004 => foghornlaw12_WireOrder.l0 k x1 x5 x7 (x534001.length : Int) (x534001.length : Int) 0 x534000 x534001 x534002 x534003 x534004
def foghornlaw12_WireOrder.l0 : Nat → Int → ByteArray → ByteArray → Int → Int → Int → Int → List (S52) → Int → Int → List (S32) → Option (Bool)
 | 0, _, _, _, _, _, _, _, _, _, _, _ => none
 | k + 1, x1, x5, x7, x8, x36, x37, x534000, x534001, x534002, x534003, x534004 => if x37 < x36 then (if x8 = 0 then (none) else (if 0 ≤ (wrap64 ((wrap64 (x8 - 1)) - (Int.tmod (wrap64 (x37 + (Int.tmod (wrap64 ((Int.tmod x1 3) + 3)) 3))) x8))) then (if (wrap64 ((wrap64 (x8 - 1)) - (Int.tmod (wrap64 (x37 + (Int.tmod (wrap64 ((Int.tmod x1 3) + 3)) 3))) x8))) < (x534001.length : Int) then (if 1 + ((rd_T52 x534001 (wrap64 ((wrap64 (x8 - 1)) - (Int.tmod (wrap64 (x37 + (Int.tmod (wrap64 ((Int.tmod x1 3) + 3)) 3))) x8)))).f0).size ≤ 9223372036854775807 then (if ((⟨#[32]⟩ : ByteArray) ++ ((rd_T52 x534001 (wrap64 ((wrap64 (x8 - 1)) - (Int.tmod (wrap64 (x37 + (Int.tmod (wrap64 ((Int.tmod x1 3) + 3)) 3))) x8)))).f0)).size + 1 ≤ 9223372036854775807 then (if (((⟨#[32]⟩ : ByteArray) ++ ((rd_T52 x534001 (wrap64 ((wrap64 (x8 - 1)) - (Int.tmod (wrap64 (x37 + (Int.tmod (wrap64 ((Int.tmod x1 3) + 3)) 3))) x8)))).f0)) ++ (⟨#[61]⟩ : ByteArray)).size + ((rd_T52 x534001 (wrap64 ((wrap64 (x8 - 1)) - (Int.tmod (wrap64 (x37 + (Int.tmod (wrap64 ((Int.tmod x1 3) + 3)) 3))) x8)))).f1).size ≤ 9223372036854775807 then (if x7.size + ((((⟨#[32]⟩ : ByteArray) ++ ((rd_T52 x534001 (wrap64 ((wrap64 (x8 - 1)) - (Int.tmod (wrap64 (x37 + (Int.tmod (wrap64 ((Int.tmod x1 3) + 3)) 3))) x8)))).f0)) ++ (⟨#[61]⟩ : ByteArray)) ++ ((rd_T52 x534001 (wrap64 ((wrap64 (x8 - 1)) - (Int.tmod (wrap64 (x37 + (Int.tmod (wrap64 ((Int.tmod x1 3) + 3)) 3))) x8)))).f1)).size ≤ 9223372036854775807 then (foghornlaw12_WireOrder.l0 k x1 x5 (x7 ++ ((((⟨#[32]⟩ : ByteArray) ++ ((rd_T52 x534001 (wrap64 ((wrap64 (x8 - 1)) - (Int.tmod (wrap64 (x37 + (Int.tmod (wrap64 ((Int.tmod x1 3) + 3)) 3))) x8)))).f0)) ++ (⟨#[61]⟩ : ByteArray)) ++ ((rd_T52 x534001 (wrap64 ((wrap64 (x8 - 1)) - (Int.tmod (wrap64 (x37 + (Int.tmod (wrap64 ((Int.tmod x1 3) + 3)) 3))) x8)))).f1))) x8 x36 (wrap64 (x37 + 1)) x534000 x534001 x534002 x534003 x534004) else (none)) else (none)) else (none)) else (none)) else (none)) else (none))) else ((wire_Parse.f k x7).bind fun bt548 => ((wire_Parse.f k x5).bind fun bt559 => ((foghornlaw12_alive.f k).bind fun t570 => (if t570 = true then (if bt548.2.2.2.2.2 = 0 then (if bt559.2.2.2.2.2 = 0 then ((foghornref12_Same.f k bt548.1 bt548.2.1 bt548.2.2.1 bt548.2.2.2.1 bt548.2.2.2.2.1 bt559.1 bt559.2.1 bt559.2.2.1 bt559.2.2.2.1 bt559.2.2.2.2.1).bind fun t571 => (if t571 = true then ((foghornref12_Same.f k bt548.1 bt548.2.1 bt548.2.2.1 bt548.2.2.2.1 bt548.2.2.2.2.1 x534000 x534001 x534002 x534003 x534004).bind fun t572 => (some t572)) else (some false))) else (some false)) else (some false)) else (some false)))))
end
def foghornlaw12_WireOrder.f (k : Nat) (a0_0 : Int) (l0_1 : List (S52)) (a0_2 : Int) (a0_3 : Int) (l0_4 : List (S32)) (a1 : Int) : Option (Bool) := (foghornlaw12_few.f k a0_0 l0_1 a0_2 a0_3 l0_4).bind fun bt534 => ((wire_Print.f k bt534.1 bt534.2.1 bt534.2.2.1 bt534.2.2.2.1 bt534.2.2.2.2).bind fun bt543 => (if bt543.2 = 0 then (foghornlaw12_WireOrder.j0 k a1 bt543.1 (bt534.1 == 2) bt534.1 bt534.2.1 bt534.2.2.1 bt534.2.2.2.1 bt534.2.2.2.2) else (foghornlaw12_WireOrder.j0 k a1 bt543.1 true bt534.1 bt534.2.1 bt534.2.2.1 bt534.2.2.2.1 bt534.2.2.2.2)))
theorem foghornlaw12_WireOrder.mono_l : ∀ k, (∀ y0 y1 y2 y3 y4 y5 y6 y7, LeO (foghornlaw12_WireOrder.j0 k y0 y1 y2 y3 y4 y5 y6 y7) (foghornlaw12_WireOrder.j0 (k + 1) y0 y1 y2 y3 y4 y5 y6 y7)) ∧ (∀ y0 y1 y2 y3 y4 y5 y6 y7, LeO (foghornlaw12_WireOrder.j1 k y0 y1 y2 y3 y4 y5 y6 y7) (foghornlaw12_WireOrder.j1 (k + 1) y0 y1 y2 y3 y4 y5 y6 y7)) ∧ (∀ y0 y1 y2 y3 y4 y5 y6 y7 y8 y9 y10, LeO (foghornlaw12_WireOrder.l0 k y0 y1 y2 y3 y4 y5 y6 y7 y8 y9 y10) (foghornlaw12_WireOrder.l0 (k + 1) y0 y1 y2 y3 y4 y5 y6 y7 y8 y9 y10))
 | 0 => ⟨fun _ _ _ _ _ _ _ _ r h => by simp [foghornlaw12_WireOrder.j0] at h, fun _ _ _ _ _ _ _ _ r h => by simp [foghornlaw12_WireOrder.j1] at h, fun _ _ _ _ _ _ _ _ _ _ _ r h => by simp [foghornlaw12_WireOrder.l0] at h⟩
 | k + 1 => by
  obtain ⟨ih0, ih1, ih2⟩ := foghornlaw12_WireOrder.mono_l k
  refine ⟨?_, ?_, ?_⟩
  ·intro y0 y1 y2 y3 y4 y5 y6 y7
   unfold foghornlaw12_WireOrder.j0
   repeat' first
   | (with_reducible exact ih0 _ _ _ _ _ _ _ _)
   | (with_reducible exact ih1 _ _ _ _ _ _ _ _)
   | (with_reducible exact ih2 _ _ _ _ _ _ _ _ _ _ _)
   | (with_reducible exact foghornlaw12_alive.mono _)
   | (with_reducible exact foghornlaw12_few.mono _ _ _ _ _ _)
   | (with_reducible exact foghornref12_Same.mono _ _ _ _ _ _ _ _ _ _ _)
   | (with_reducible exact wire_Parse.mono _ _)
   | (with_reducible exact wire_Print.mono _ _ _ _ _ _)
   | (with_reducible exact LeO.refl _)
   | (with_reducible exact LeO.none _)
   | (with_reducible refine LeO.ite ?_ ?_)
   | (with_reducible refine LeO.bind ?_ (fun _ => ?_))
   | exact ih0 _ _ _ _ _ _ _ _
   | exact ih1 _ _ _ _ _ _ _ _
   | exact ih2 _ _ _ _ _ _ _ _ _ _ _
   | exact foghornlaw12_alive.mono _
   | exact foghornlaw12_few.mono _ _ _ _ _ _
   | exact foghornref12_Same.mono _ _ _ _ _ _ _ _ _ _ _
   | exact wire_Parse.mono _ _
   | exact wire_Print.mono _ _ _ _ _ _
   | exact LeO.none _
   | refine LeO.ite ?_ ?_
   | refine LeO.bind ?_ (fun _ => ?_)
  ·intro y0 y1 y2 y3 y4 y5 y6 y7
   unfold foghornlaw12_WireOrder.j1
   repeat' first
   | (with_reducible exact ih0 _ _ _ _ _ _ _ _)
   | (with_reducible exact ih1 _ _ _ _ _ _ _ _)
   | (with_reducible exact ih2 _ _ _ _ _ _ _ _ _ _ _)
   | (with_reducible exact foghornlaw12_alive.mono _)
   | (with_reducible exact foghornlaw12_few.mono _ _ _ _ _ _)
   | (with_reducible exact foghornref12_Same.mono _ _ _ _ _ _ _ _ _ _ _)
   | (with_reducible exact wire_Parse.mono _ _)
   | (with_reducible exact wire_Print.mono _ _ _ _ _ _)
   | (with_reducible exact LeO.refl _)
   | (with_reducible exact LeO.none _)
   | (with_reducible refine LeO.ite ?_ ?_)
   | (with_reducible refine LeO.bind ?_ (fun _ => ?_))
   | exact ih0 _ _ _ _ _ _ _ _
   | exact ih1 _ _ _ _ _ _ _ _
   | exact ih2 _ _ _ _ _ _ _ _ _ _ _
   | exact foghornlaw12_alive.mono _
   | exact foghornlaw12_few.mono _ _ _ _ _ _
   | exact foghornref12_Same.mono _ _ _ _ _ _ _ _ _ _ _
   | exact wire_Parse.mono _ _
   | exact wire_Print.mono _ _ _ _ _ _
   | exact LeO.none _
   | refine LeO.ite ?_ ?_
   | refine LeO.bind ?_ (fun _ => ?_)
  ·intro y0 y1 y2 y3 y4 y5 y6 y7 y8 y9 y10
   unfold foghornlaw12_WireOrder.l0
   repeat' first
   | (with_reducible exact ih0 _ _ _ _ _ _ _ _)
   | (with_reducible exact ih1 _ _ _ _ _ _ _ _)
   | (with_reducible exact ih2 _ _ _ _ _ _ _ _ _ _ _)
   | (with_reducible exact foghornlaw12_alive.mono _)
   | (with_reducible exact foghornlaw12_few.mono _ _ _ _ _ _)
   | (with_reducible exact foghornref12_Same.mono _ _ _ _ _ _ _ _ _ _ _)
   | (with_reducible exact wire_Parse.mono _ _)
   | (with_reducible exact wire_Print.mono _ _ _ _ _ _)
   | (with_reducible exact LeO.refl _)
   | (with_reducible exact LeO.none _)
   | (with_reducible refine LeO.ite ?_ ?_)
   | (with_reducible refine LeO.bind ?_ (fun _ => ?_))
   | exact ih0 _ _ _ _ _ _ _ _
   | exact ih1 _ _ _ _ _ _ _ _
   | exact ih2 _ _ _ _ _ _ _ _ _ _ _
   | exact foghornlaw12_alive.mono _
   | exact foghornlaw12_few.mono _ _ _ _ _ _
   | exact foghornref12_Same.mono _ _ _ _ _ _ _ _ _ _ _
   | exact wire_Parse.mono _ _
   | exact wire_Print.mono _ _ _ _ _ _
   | exact LeO.none _
   | refine LeO.ite ?_ ?_
   | refine LeO.bind ?_ (fun _ => ?_)
def foghornlaw12_WireOrder.T12 : Bool × List (List Nat × List Nat) := (true, [([], []), ([0], [0]), ([], []), ([2], [2]), ([], []), ([], []), ([5], [5]), ([6], [6]), ([7], [7]), ([4, 8], [4, 8]), ([], []), ([9, 10], [9, 10]), ([3, 11], [3, 11]), ([1, 12], [1, 12]), ([13], [13]), ([], []), ([15, 14, 0, 1, 2, 3, 4, 5, 6, 7, 8, 9, 10, 11, 12, 13, 14, 15], [14, 15])])
def foghornlaw12_WireOrder.B12 : List Nat := [0, 1, 0, 4, 0, 0, 32, 96, 224, 496, 0, 2032, 4092, 8191, 16383, 0, 65535]
theorem foghornlaw12_WireOrder.tab12 : rtab .any (opsOf Tryz.f6 12) = foghornlaw12_WireOrder.T12 := by kernel_rfl
theorem foghornlaw12_WireOrder.bits12 : waitsOk foghornlaw12_WireOrder.T12.2 foghornlaw12_WireOrder.B12 = true := by kernel_rfl
set_option maxHeartbeats 8000000 in
set_option maxRecDepth 100000 in
theorem foghornlaw12_WireOrder.calls (k : Nat) (a0_0 : Int) (A0_1 : Option Addr) (c0_1 : Nat) (l0_1 : List (S52)) (a0_2 : Int) (a0_3 : Int) (A0_4 : Option Addr) (c0_4 : Nat) (l0_4 : List (S32)) (a1 : Int) (r : Bool) (w : World) (hG : GOK w) (hr0_1 : Kd.C k52 w A0_1 l0_1.length l0_1) (hc0_1 : l0_1.length ≤ c0_1) (hr0_4 : Kd.C k32 w A0_4 l0_4.length l0_4) (hc0_4 : l0_4.length ≤ c0_4) (h : foghornlaw12_WireOrder.f k a0_0 l0_1 a0_2 a0_3 l0_4 a1 = some r) (hrt_ : r = true := by rfl) :
  Calls Tryz.prog 6 #[.agg #[.int .i64 a0_0, .slice A0_1 l0_1.length c0_1, .int .i64 a0_2, .int .i64 a0_3, .slice A0_4 l0_4.length c0_4], .int .i64 a1] w fun e w' => e = .returned (.bool r) ∧ Below w.heap.size w w' := by
 have hu27 := Tryz.underlying27
 have hu52 := Tryz.underlying52
 have HR0_1 := aA hr0_1
 have HC0_1 := aA hc0_1
 clear hr0_1 hc0_1
 have HR0_4 := aA hr0_4
 have HC0_4 := aA hc0_4
 clear hr0_4 hc0_4
 have HG := aA hG
 clear hG
 have HB := aA (Below.refl w.heap.size w)
 have H : ((foghornlaw12_few.f k a0_0 l0_1 a0_2 a0_3 l0_4).bind fun bt534 => ((wire_Print.f k bt534.1 bt534.2.1 bt534.2.2.1 bt534.2.2.2.1 bt534.2.2.2.2).bind fun bt543 => (if bt543.2 = 0 then (foghornlaw12_WireOrder.j0 k a1 bt543.1 (bt534.1 == 2) bt534.1 bt534.2.1 bt534.2.2.1 bt534.2.2.2.1 bt534.2.2.2.2) else (foghornlaw12_WireOrder.j0 k a1 bt543.1 true bt534.1 bt534.2.1 bt534.2.2.1 bt534.2.2.2.1 bt534.2.2.2.2)))) = some r := h
 clear h
 replace H := Option.bind_eq_some_iff.mp H
 obtain ⟨⟨t534, t535, t538, t539, t540⟩, A30, H⟩ := H
 have A3 := aA A30
 clear A30
 replace H := Option.bind_eq_some_iff.mp H
 obtain ⟨⟨t543, t544⟩, A40, H⟩ := H
 have A4 := aA A40
 clear A40
 have HC5 := aA H
 clear H
 go_enter Tryz.func6, Tryz.ntmps6
 go_upto_region 3 with (first | ((with_reducible refine gate_dst (N := 2) rfl ?_); refine box_event ?hg (N := 2) ?hd (cs := #[.int .i64 a0_0, .slice A0_1 l0_1.length c0_1, .int .i64 a0_2, .int .i64 a0_3, .slice A0_4 l0_4.length c0_4]) (t := 27) ?hr ?_; (case hd => rfl); (case hg => rfl); (case hr => first | (go_simp; done) | (go_simp; rfl)); intro gb533 hg w6 hbox hb; have n0_ := aA (below_step mB hb); have n1_ := aA (hbox); have n2_ := aA ((bZ hg mB)); have n3_ := aA ((bZ hg mB)); clear HB; have HB := n0_; have BK533 := n1_; have GW533 := n2_; have GE533 := n3_; clear n0_ n1_ n2_ n3_ hb hbox hg; obtain ⟨hcz7_0, hcz7_1, hcz7_2, hcz7_3, hcz7_4⟩ := bC5 BK533.out; obtain ⟨hfz7_0, hfz7_1, hfz7_2, hfz7_3, hfz7_4⟩ := bF5 BK533.out) | ((with_reducible refine gate_callee (f := 16) rfl ?_); refine goesL_ (some 16) rfl rfl Tryz.func16 (by kernel_rfl) rfl #[.agg #[.int .i64 a0_0, .slice A0_1 l0_1.length c0_1, .int .i64 a0_2, .int .i64 a0_3, .slice A0_4 l0_4.length c0_4]] rfl mS ?_; (with_reducible refine (foghornlaw12_few.calls k a0_0 _ _ l0_1 a0_2 a0_3 _ _ l0_4 t534 t535 t538 t539 t540 _ ?side1 ?side2 ?side3 ?side4 A3.out).mono ?_); (case side1 => exact mC ((Kd.C_below HR0_1.out HB.out))); (case side2 => exact HC0_1.out); (case side3 => exact mC ((Kd.C_below HR0_4.out HB.out))); (case side4 => exact HC0_4.out); rintro e w8 ⟨v536, v541, rfl, ho0, ho1, hb⟩; refine ⟨_, rfl, ?_⟩; have n0_ := aA (Kd.R_lower ho0 (below_size (mD1 GE533.out))); have n1_ := aA (Kd.R_lower ho1 (below_size (mD1 GE533.out))); have n2_ := aA (bB BK533.out hb); have n3_ := aA (below_step (mD1 GE533.out) hb); clear BK533 HB; have HO537 := n0_; have HO542 := n1_; have BK533 := n2_; have HB := n3_; clear n0_ n1_ n2_ n3_; (try clear hb); (try clear hb2); (try clear hk); (try clear hi); (try clear ho0); (try clear ho1); obtain ⟨hcz9_0, hcz9_1, hcz9_2, hcz9_3, hcz9_4⟩ := bC5 BK533.out; obtain ⟨hfz9_0, hfz9_1, hfz9_2, hfz9_3, hfz9_4⟩ := bF5 BK533.out; obtain ⟨Ao10, co10, eo10⟩ := Kd.R_slice HO537.out; subst eo10; obtain ⟨Ao11, co11, eo11⟩ := Kd.R_slice HO542.out; subst eo11) | ((with_reducible refine gate_callee (f := 18) rfl ?_); refine goesL_ (some 19) rfl rfl Tryz.func18 (by kernel_rfl) rfl #[.agg #[.int .i64 t534, .slice Ao10 t535.length co10, .int .i64 t538, .int .i64 t539, .slice Ao11 t540.length co11]] rfl mS ?_; (with_reducible refine (wire_Print.calls k t534 _ _ t535 t538 t539 _ _ t540 t543 t544 _ ?side1 ?side2 ?side3 ?side4 ?side5 A4.out).mono ?_); (case side1 => exact gok_below HG.out (mD1 GE533.out)); (case side2 => refine (Kd.R_reads' (e := 52) (base := w.heap.size) (ok := fun k_ => True) (n := t535.length) (c := co10) ?_).2.2; exact (by (with_reducible repeat (first | apply Kd.R_alloc | apply Kd.R_drewN | apply Kd.R_drew)); exact (Kd.R_mono (rF 4 (rF 3 (rF 2 (rF 1 (rF 0 (Kd.R_types HO537.out BK533.out (by decide))))))) (fun _ h_ => h_.1)))); (case side3 => exact (Kd.R_reads' HO537.out).2.1); (case side4 => refine (Kd.R_reads' (e := 32) (base := w.heap.size) (ok := fun k_ => True) (n := t540.length) (c := co11) ?_).2.2; exact (by (with_reducible repeat (first | apply Kd.R_alloc | apply Kd.R_drewN | apply Kd.R_drew)); exact (Kd.R_mono (rF 4 (rF 3 (rF 2 (rF 1 (rF 0 (Kd.R_types HO542.out BK533.out (by decide))))))) (fun _ h_ => h_.1)))); (case side5 => exact (Kd.R_reads' HO542.out).2.1); rintro e w12 ⟨rfl, hb⟩; refine ⟨_, rfl, ?_⟩; have n0_ := aA (Kd.R_below (by (with_reducible repeat (first | apply Kd.R_alloc | apply Kd.R_drewN | apply Kd.R_drew)); exact (Kd.R_mono (rF 4 (rF 3 (rF 2 (rF 1 (rF 0 (Kd.R_types HO537.out BK533.out (by decide))))))) (fun _ h_ => h_.1))) hb); have n1_ := aA (Kd.R_below (by (with_reducible repeat (first | apply Kd.R_alloc | apply Kd.R_drewN | apply Kd.R_drew)); exact (Kd.R_mono (rF 4 (rF 3 (rF 2 (rF 1 (rF 0 (Kd.R_types HO542.out BK533.out (by decide))))))) (fun _ h_ => h_.1))) hb); have n2_ := aA (blk_below (g := gb533) (o := .cells #[.int .i64 t534, .slice Ao10 t535.length co10, .int .i64 t538, .int .i64 t539, .slice Ao11 t540.length co11] 27 (0, 0)) (by (with_reducible repeat (first | refine blk_drewN ?_ _ | refine blk_drew ?_ | refine blk_alloc ?_ _)); have h_ := BK533.out; exact pK 4 (pK 3 (pK 2 (pK 1 (pK 0 (h_)))))) hb); have n3_ := aA (below_step (mD1 GE533.out) hb); clear HO537 HO542 BK533 HB; have HO537 := n0_; have HO542 := n1_; have BK533 := n2_; have HB := n3_; clear n0_ n1_ n2_ n3_; (try clear hb); (try clear hb2); (try clear hk); (try clear hi)))
 (try simp only [Act.put, List.setIfInBounds_toArray, List.set_cons_zero, List.set_cons_succ])
 go_cut [28] (fun v28 wc => ∃ (kq : Nat) (x28_4 : Bool), v28 = .bool x28_4 ∧ Aside0 (foghornlaw12_WireOrder.j0 kq a1 t543 x28_4 t534 t535 t538 t539 t540 = some r) ∧ Aside0 (kq ≤ k) ∧ Aside0 (Kd.R k52 52 wc w.heap.size (fun _ => True) (.slice Ao10 t535.length co10) t535) ∧ Aside0 (Kd.R k32 32 wc w.heap.size (fun _ => True) (.slice Ao11 t540.length co11) t540) ∧ Aside0 (wc.heap[gb533]? = some (.cells #[.int .i64 t534, (.slice Ao10 t535.length co10), .int .i64 t538, .int .i64 t539, (.slice Ao11 t540.length co11)] 27 (0, 0))) ∧ Aside0 (Below w.heap.size w wc))
 case first =>
  have H := HC5.out
  clear HC5
  by_cases c13 : t544 = 0
  ·rw [if_pos c13] at H
   have c13b0 : (t544 == 0) = true := beq_iff_eq.mpr c13
   have c13b1 : (t544 != 0) = false := bne_eq_false_iff_eq.mpr c13
   clear c13
   (first | rw [c13b0] | (simp only [i64_w, i32_w]; rw [c13b0]) | skip)
   have H' := aA H
   clear H
   obtain ⟨hcz14_0, hcz14_1, hcz14_2, hcz14_3, hcz14_4⟩ := bC5 BK533.out
   obtain ⟨hfz14_0, hfz14_1, hfz14_2, hfz14_3, hfz14_4⟩ := bF5 BK533.out
   go_wp2
   go_meet
   case rel => exact ⟨_, ((t534 == 2)), (by first | rfl | (simp; done) | (simp [*]; done)), H', ⟨by first | omega | exact Nat.le_refl _⟩, ⟨by (with_reducible repeat (first | apply Kd.R_alloc | apply Kd.R_drewN | apply Kd.R_drew)); exact HO537.out⟩, ⟨by (with_reducible repeat (first | apply Kd.R_alloc | apply Kd.R_drewN | apply Kd.R_drew)); exact HO542.out⟩, ⟨by (with_reducible repeat (first | refine blk_drewN ?_ _ | refine blk_drew ?_ | refine blk_alloc ?_ _)); exact BK533.out⟩, ⟨by repeat (first | (with_reducible first | exact HB.out | apply below_alloc | apply pw_below_drewN | apply below_drew1 | refine below_set ?_ GE533.out) | exact HB.out)⟩⟩
  ·rw [if_neg c13] at H
   have c13b0 : (t544 == 0) = false := beq_eq_false_iff_ne.mpr c13
   have c13b1 : (t544 != 0) = true := bne_iff_ne.mpr c13
   (first | rw [c13b0] | (simp only [i64_w, i32_w]; rw [c13b0]) | skip)
   have H' := aA H
   clear H
   go_wp2
   go_meet
   case rel => exact ⟨_, (true), (by first | rfl | (simp; done) | (simp [*]; done)), H', ⟨by first | omega | exact Nat.le_refl _⟩, ⟨by (with_reducible repeat (first | apply Kd.R_alloc | apply Kd.R_drewN | apply Kd.R_drew)); exact HO537.out⟩, ⟨by (with_reducible repeat (first | apply Kd.R_alloc | apply Kd.R_drewN | apply Kd.R_drew)); exact HO542.out⟩, ⟨by (with_reducible repeat (first | refine blk_drewN ?_ _ | refine blk_drew ?_ | refine blk_alloc ?_ _)); exact BK533.out⟩, ⟨by repeat (first | (with_reducible first | exact HB.out | apply below_alloc | apply pw_below_drewN | apply below_drew1 | refine below_set ?_ GE533.out) | exact HB.out)⟩⟩
 case rest =>
  clear HC5
  try clear c1
  try clear p2
  try clear c6
  try clear c13
  try clear c13b0
  try clear c13b1
  try clear hcz14_0 hcz14_1 hcz14_2 hcz14_3 hcz14_4
  try clear hcz7_0 hcz7_1 hcz7_2 hcz7_3 hcz7_4
  try clear hcz9_0 hcz9_1 hcz9_2 hcz9_3 hcz9_4
  try clear hfz14_0 hfz14_1 hfz14_2 hfz14_3 hfz14_4
  try clear hfz7_0 hfz7_1 hfz7_2 hfz7_3 hfz7_4
  try clear hfz9_0 hfz9_1 hfz9_2 hfz9_3 hfz9_4
  obtain ⟨kq, x28_4, rfl, HA, HJ4, HO_534001, HO_534004, BK533, HB⟩ := hcut
  cases kq with
  | zero => exact absurd HA.out (by simp [foghornlaw12_WireOrder.j0])
  | succ kj4 =>
   have H := HA.out
   clear HA
   simp only [foghornlaw12_WireOrder.j0] at H
   by_cases c15 : x28_4 = true
   ·subst c15
    have H1 : ((foghornlaw12_alive.f kj4).bind fun t545 => (some t545)) = some r := by rw [if_pos rfl] at H; exact H
    clear H
    have H := H1
    clear H1
    replace H := Option.bind_eq_some_iff.mp H
    obtain ⟨t545, A160, H⟩ := H
    have A16 := aA A160
    clear A160
    obtain rfl := Option.some.inj H
    go_wp2_with (first | ((with_reducible refine gate_callee (f := 15) rfl ?_); refine goesL_ (some 29) rfl rfl Tryz.func15 (by kernel_rfl) rfl #[] rfl mS ?_; (with_reducible refine (foghornlaw12_alive.calls kj4  t545 _ ?side1 A16.out).mono ?_); (case side1 => exact gok_below HG.out (mD1 GE533.out)); rintro e w17 ⟨rfl, hb⟩; refine ⟨_, rfl, ?_⟩; have n0_ := aA (Kd.R_below (mR HO_534001.out) hb); have n1_ := aA (Kd.R_below (mR HO_534004.out) hb); have n2_ := aA (bB BK533.out hb); have n3_ := aA (below_step (mD1 GE533.out) hb); clear HO_534001 HO_534004 BK533 HB; have HO_534001 := n0_; have HO_534004 := n1_; have BK533 := n2_; have HB := n3_; clear n0_ n1_ n2_ n3_; (try clear hb); (try clear hb2); (try clear hk); (try clear hi)))
    go_ret
    exact ⟨by first | rfl | (simp [errW_none, errW_some] <;> rfl) | (simp [*, errW_none, errW_some] <;> rfl), by repeat (first | (with_reducible first | exact HB.out | apply below_alloc | apply pw_below_drewN | apply below_drew1 | refine below_set ?_ GE533.out) | exact HB.out)⟩
   ·replace c15 := Bool.eq_false_iff.mpr c15
    subst c15
    have H1 : (if t534 = 1 then (foghornlaw12_WireOrder.j1 kj4 a1 t543 (⟨#[100, 111, 110, 101]⟩ : ByteArray) t534 t535 t538 t539 t540) else (foghornlaw12_WireOrder.j1 kj4 a1 t543 (⟨#[102, 105, 114, 101]⟩ : ByteArray) t534 t535 t538 t539 t540)) = some r := by rw [if_neg (show ¬ (false = true) by decide)] at H; exact H
    clear H
    have H := H1
    clear H1
    have HC18 := aA H
    clear H
    obtain ⟨hcz19_0, hcz19_1, hcz19_2, hcz19_3, hcz19_4⟩ := bC5 BK533.out
    obtain ⟨hfz19_0, hfz19_1, hfz19_2, hfz19_3, hfz19_4⟩ := bF5 BK533.out
    go_upto_if 32 with (fail)
    go_cut [7] (fun v7 wc => ∃ (kq : Nat) (x7_17 : ByteArray), v7 = .string x7_17 ∧ Aside0 (foghornlaw12_WireOrder.j1 kq a1 t543 x7_17 t534 t535 t538 t539 t540 = some r) ∧ Aside0 (kq ≤ kj4) ∧ Aside0 (Kd.R k52 52 wc w.heap.size (fun _ => True) (.slice Ao10 t535.length co10) t535) ∧ Aside0 (Kd.R k32 32 wc w.heap.size (fun _ => True) (.slice Ao11 t540.length co11) t540) ∧ Aside0 (wc.heap[gb533]? = some (.cells #[.int .i64 t534, (.slice Ao10 t535.length co10), .int .i64 t538, .int .i64 t539, (.slice Ao11 t540.length co11)] 27 (0, 0))) ∧ Aside0 (Below w.heap.size w wc))
    case first =>
     have H := HC18.out
     clear HC18
     by_cases c20 : t534 = 1
     ·rw [if_pos c20] at H
      have c20b0 : (t534 == 1) = true := beq_iff_eq.mpr c20
      have c20b1 : (t534 != 1) = false := bne_eq_false_iff_eq.mpr c20
      clear c20
      (first | rw [c20b0] | (simp only [i64_w, i32_w]; rw [c20b0]) | skip)
      have H' := aA H
      clear H
      go_wp2
      go_meet
      case rel => exact ⟨_, ((⟨#[100, 111, 110, 101]⟩ : ByteArray)), (by first | rfl | (simp; done) | (simp [*]; done)), H', ⟨by have := HJ4.out; first | omega | exact Nat.le_refl _⟩, ⟨by (with_reducible repeat (first | apply Kd.R_alloc | apply Kd.R_drewN | apply Kd.R_drew)); exact HO_534001.out⟩, ⟨by (with_reducible repeat (first | apply Kd.R_alloc | apply Kd.R_drewN | apply Kd.R_drew)); exact HO_534004.out⟩, ⟨by (with_reducible repeat (first | refine blk_drewN ?_ _ | refine blk_drew ?_ | refine blk_alloc ?_ _)); exact BK533.out⟩, ⟨by repeat (first | (with_reducible first | exact HB.out | apply below_alloc | apply pw_below_drewN | apply below_drew1 | refine below_set ?_ GE533.out) | exact HB.out)⟩⟩
     ·rw [if_neg c20] at H
      have c20b0 : (t534 == 1) = false := beq_eq_false_iff_ne.mpr c20
      have c20b1 : (t534 != 1) = true := bne_iff_ne.mpr c20
      (first | rw [c20b0] | (simp only [i64_w, i32_w]; rw [c20b0]) | skip)
      have H' := aA H
      clear H
      go_wp2
      go_meet
      case rel => exact ⟨_, ((⟨#[102, 105, 114, 101]⟩ : ByteArray)), (by first | rfl | (simp; done) | (simp [*]; done)), H', ⟨by have := HJ4.out; first | omega | exact Nat.le_refl _⟩, ⟨by (with_reducible repeat (first | apply Kd.R_alloc | apply Kd.R_drewN | apply Kd.R_drew)); exact HO_534001.out⟩, ⟨by (with_reducible repeat (first | apply Kd.R_alloc | apply Kd.R_drewN | apply Kd.R_drew)); exact HO_534004.out⟩, ⟨by (with_reducible repeat (first | refine blk_drewN ?_ _ | refine blk_drew ?_ | refine blk_alloc ?_ _)); exact BK533.out⟩, ⟨by repeat (first | (with_reducible first | exact HB.out | apply below_alloc | apply pw_below_drewN | apply below_drew1 | refine below_set ?_ GE533.out) | exact HB.out)⟩⟩
    case rest =>
     clear HC18
     try clear c1
     try clear c2
     try clear p2
     try clear c6
     try clear c13
     try clear c13b0
     try clear c13b1
     try clear c15
     try clear c16
     try clear c18
     try clear c20
     try clear c20b0
     try clear c20b1
     try clear hcz14_0 hcz14_1 hcz14_2 hcz14_3 hcz14_4
     try clear hcz19_0 hcz19_1 hcz19_2 hcz19_3 hcz19_4
     try clear hcz7_0 hcz7_1 hcz7_2 hcz7_3 hcz7_4
     try clear hcz9_0 hcz9_1 hcz9_2 hcz9_3 hcz9_4
     try clear hfz14_0 hfz14_1 hfz14_2 hfz14_3 hfz14_4
     try clear hfz19_0 hfz19_1 hfz19_2 hfz19_3 hfz19_4
     try clear hfz7_0 hfz7_1 hfz7_2 hfz7_3 hfz7_4
     try clear hfz9_0 hfz9_1 hfz9_2 hfz9_3 hfz9_4
     try clear p2
     obtain ⟨kq, x7_17, rfl, HA, HJ17, HO_534001, HO_534004, BK533, HB⟩ := hcut
     cases kq with
     | zero => exact absurd HA.out (by simp [foghornlaw12_WireOrder.j1])
     | succ kj17 =>
      have H := HA.out
      clear HA
      simp only [foghornlaw12_WireOrder.j1] at H
      have H' := aA H
      clear H
      obtain ⟨hcz21_0, hcz21_1, hcz21_2, hcz21_3, hcz21_4⟩ := bC5 BK533.out
      obtain ⟨hfz21_0, hfz21_1, hfz21_2, hfz21_3, hfz21_4⟩ := bF5 BK533.out
      go_wp2
      go_loopg [7, 37] kj17 (fun kq v7 v37 w' => ∃ (x7_3 : ByteArray) (x37_3 : Int), v7 = .string x7_3 ∧ v37 = .int .i64 x37_3 ∧ Aside0 (foghornlaw12_WireOrder.l0 kq a1 t543 x7_3 (t535.length : Int) (t535.length : Int) x37_3 t534 t535 t538 t539 t540 = some r) ∧ Aside0 (kq ≤ kj17) ∧ Aside0 (Kd.R k52 52 w' w.heap.size (fun _ => True) (.slice Ao10 t535.length co10) t535) ∧ Aside0 (Kd.R k32 32 w' w.heap.size (fun _ => True) (.slice Ao11 t540.length co11) t540) ∧ Aside0 (w'.heap[gb533]? = some (.cells #[.int .i64 t534, (.slice Ao10 t535.length co10), .int .i64 t538, .int .i64 t539, (.slice Ao11 t540.length co11)] 27 (0, 0))) ∧ Aside0 (Below w.heap.size w w'))
      case atStart => exact ⟨(x7_17), (0), (by first | rfl | (simp; done) | (simp [*]; done)), (by first | rfl | (simp; done) | (simp [*]; done)), H', ⟨Nat.le_refl _⟩, ⟨by (with_reducible repeat (first | apply Kd.R_alloc | apply Kd.R_drewN | apply Kd.R_drew)); exact HO_534001.out⟩, ⟨by (with_reducible repeat (first | apply Kd.R_alloc | apply Kd.R_drewN | apply Kd.R_drew)); exact HO_534004.out⟩, ⟨by (with_reducible repeat (first | refine blk_drewN ?_ _ | refine blk_drew ?_ | refine blk_alloc ?_ _)); exact BK533.out⟩, ⟨by repeat (first | (with_reducible first | exact HB.out | apply below_alloc | apply pw_below_drewN | apply below_drew1 | refine below_set ?_ GE533.out) | exact HB.out)⟩⟩
      case round =>
       clear H'
       try clear c1
       try clear c2
       try clear p2
       try clear c6
       try clear c13
       try clear c13b0
       try clear c13b1
       try clear c15
       try clear c16
       try clear c18
       try clear c20
       try clear c20b0
       try clear c20b1
       try clear hcz14_0 hcz14_1 hcz14_2 hcz14_3 hcz14_4
       try clear hcz19_0 hcz19_1 hcz19_2 hcz19_3 hcz19_4
       try clear hcz21_0 hcz21_1 hcz21_2 hcz21_3 hcz21_4
       try clear hcz7_0 hcz7_1 hcz7_2 hcz7_3 hcz7_4
       try clear hcz9_0 hcz9_1 hcz9_2 hcz9_3 hcz9_4
       try clear hfz14_0 hfz14_1 hfz14_2 hfz14_3 hfz14_4
       try clear hfz19_0 hfz19_1 hfz19_2 hfz19_3 hfz19_4
       try clear hfz21_0 hfz21_1 hfz21_2 hfz21_3 hfz21_4
       try clear hfz7_0 hfz7_1 hfz7_2 hfz7_3 hfz7_4
       try clear hfz9_0 hfz9_1 hfz9_2 hfz9_3 hfz9_4
       try clear p2
       obtain ⟨x7_3, x37_3, rfl, rfl, HA, HK3, HO_534001, HO_534004, BK533, HB⟩ := hrel
       cases gk with
       | zero => exact absurd HA.out (by simp [foghornlaw12_WireOrder.l0])
       | succ k3 =>
        have H := HA.out
        clear HA
        simp only [foghornlaw12_WireOrder.l0] at H
        by_cases c22 : x37_3 < (t535.length : Int)
        ·rw [if_pos c22] at H
         have c22b0 : decide (x37_3 < (t535.length : Int)) = true := decide_eq_true c22
         clear c22
         by_cases c23 : (t535.length : Int) = 0
         ·rw [if_pos c23] at H
          exact absurd H (by simp)
         ·rw [if_neg c23] at H
          have c23b0 : ((t535.length : Int) == 0) = false := beq_eq_false_iff_ne.mpr c23
          have c23b1 : ((t535.length : Int) != 0) = true := bne_iff_ne.mpr c23
          have c23b2 : ¬ (t535 = []) := fun h_ => c23 (by rw [h_]; rfl)
          obtain ⟨ji24, hji24⟩ : ∃ j_ : Int, (wrap64 ((wrap64 ((t535.length : Int) - 1)) - (Int.tmod (wrap64 (x37_3 + (Int.tmod (wrap64 ((Int.tmod a1 3) + 3)) 3))) (t535.length : Int)))) = j_ := ⟨_, rfl⟩
          replace H : (if 0 ≤ (ji24) then (if (ji24) < (t535.length : Int) then (if 1 + ((rd_T52 t535 (ji24)).f0).size ≤ 9223372036854775807 then (if ((⟨#[32]⟩ : ByteArray) ++ ((rd_T52 t535 (ji24)).f0)).size + 1 ≤ 9223372036854775807 then (if (((⟨#[32]⟩ : ByteArray) ++ ((rd_T52 t535 (ji24)).f0)) ++ (⟨#[61]⟩ : ByteArray)).size + ((rd_T52 t535 (ji24)).f1).size ≤ 9223372036854775807 then (if x7_3.size + ((((⟨#[32]⟩ : ByteArray) ++ ((rd_T52 t535 (ji24)).f0)) ++ (⟨#[61]⟩ : ByteArray)) ++ ((rd_T52 t535 (ji24)).f1)).size ≤ 9223372036854775807 then (foghornlaw12_WireOrder.l0 k3 a1 t543 (x7_3 ++ ((((⟨#[32]⟩ : ByteArray) ++ ((rd_T52 t535 (ji24)).f0)) ++ (⟨#[61]⟩ : ByteArray)) ++ ((rd_T52 t535 (ji24)).f1))) (t535.length : Int) (t535.length : Int) (wrap64 (x37_3 + 1)) t534 t535 t538 t539 t540) else (none)) else (none)) else (none)) else (none)) else (none)) else (none)) = some r := by first | (rw [hji24] at H; exact H) | (simp only [hji24] at H ⊢; exact H)
          have hji24w : (IntKind.i64.wrap ((wrap64 ((t535.length : Int) - 1)) - (Int.tmod (wrap64 (x37_3 + (Int.tmod (wrap64 ((Int.tmod a1 3) + 3)) 3))) (t535.length : Int)))) = ji24 := (i64_w _).trans hji24
          by_cases c25 : 0 ≤ (ji24)
          ·rw [if_pos c25] at H
           have c25b0 : decide (0 ≤ (ji24)) = true := decide_eq_true c25
           clear c25
           by_cases c26 : (ji24) < (t535.length : Int)
           ·rw [if_pos c26] at H
            have c26b0 : decide ((ji24) < (t535.length : Int)) = true := decide_eq_true c26
            clear c26
            by_cases c27 : 1 + ((rd_T52 t535 (ji24)).f0).size ≤ 9223372036854775807
            ·rw [if_pos c27] at H
             have c27b0 := eq_true c27
             have c27b1 := decide_eq_true c27
             try have c27b2 : (9223372036854775807 < 1 + ((rd_T52 t535 (ji24)).f0).size) = False := eq_false (Nat.not_lt.2 c27)
             by_cases c28 : ((⟨#[32]⟩ : ByteArray) ++ ((rd_T52 t535 (ji24)).f0)).size + 1 ≤ 9223372036854775807
             ·rw [if_pos c28] at H
              have c28b0 := eq_true c28
              have c28b1 := decide_eq_true c28
              try have c28b2 : (9223372036854775807 < ((⟨#[32]⟩ : ByteArray) ++ ((rd_T52 t535 (ji24)).f0)).size + 1) = False := eq_false (Nat.not_lt.2 c28)
              try have c28b3 : (9223372036854775807 < 1 + ((rd_T52 t535 (ji24)).f0).size + 1) = False := eq_false (by have h_ := c28; simp only [ByteArray.size_append] at h_; have : ((⟨#[32]⟩ : ByteArray)).size = 1 := rfl; omega)
              try have c28b4 : (9223372036854775807 ≤ 1 + ((rd_T52 t535 (ji24)).f0).size) = False := eq_false (by have h_ := c28; simp only [ByteArray.size_append] at h_; have : ((⟨#[32]⟩ : ByteArray)).size = 1 := rfl; omega)
              try have c28b5 : (9223372036854775807 ≤ (((⟨#[32]⟩ : ByteArray) ++ ((rd_T52 t535 (ji24)).f0))).size) = False := eq_false (by have h_ := c28; simp only [ByteArray.size_append] at h_; have : ((⟨#[32]⟩ : ByteArray)).size = 1 := rfl; (simp only [ByteArray.size_append]; omega))
              by_cases c29 : (((⟨#[32]⟩ : ByteArray) ++ ((rd_T52 t535 (ji24)).f0)) ++ (⟨#[61]⟩ : ByteArray)).size + ((rd_T52 t535 (ji24)).f1).size ≤ 9223372036854775807
              ·rw [if_pos c29] at H
               have c29b0 := eq_true c29
               have c29b1 := decide_eq_true c29
               try have c29b2 : (9223372036854775807 < (((⟨#[32]⟩ : ByteArray) ++ ((rd_T52 t535 (ji24)).f0)) ++ (⟨#[61]⟩ : ByteArray)).size + ((rd_T52 t535 (ji24)).f1).size) = False := eq_false (Nat.not_lt.2 c29)
               try have c29b3 : (9223372036854775807 < 1 + ((rd_T52 t535 (ji24)).f0).size + 1 + ((rd_T52 t535 (ji24)).f1).size) = False := eq_false (by have h_ := c29; simp only [ByteArray.size_append] at h_; have : ((⟨#[32]⟩ : ByteArray)).size = 1 := rfl; have : ((⟨#[61]⟩ : ByteArray)).size = 1 := rfl; omega)
               by_cases c30 : x7_3.size + ((((⟨#[32]⟩ : ByteArray) ++ ((rd_T52 t535 (ji24)).f0)) ++ (⟨#[61]⟩ : ByteArray)) ++ ((rd_T52 t535 (ji24)).f1)).size ≤ 9223372036854775807
               ·rw [if_pos c30] at H
                have c30b0 := eq_true c30
                have c30b1 := decide_eq_true c30
                try have c30b2 : (9223372036854775807 < x7_3.size + ((((⟨#[32]⟩ : ByteArray) ++ ((rd_T52 t535 (ji24)).f0)) ++ (⟨#[61]⟩ : ByteArray)) ++ ((rd_T52 t535 (ji24)).f1)).size) = False := eq_false (Nat.not_lt.2 c30)
                have H' := aA H
                clear H
                try go_wp2
                have n0_ := aA (Kd.R_drew HO_534001.out)
                have n1_ := aA (Kd.R_drew HO_534004.out)
                have n2_ := aA (blk_drew BK533.out)
                have n3_ := aA (below_drew1 HB.out)
                clear HO_534001
                clear HO_534004
                clear BK533
                clear HB
                have HO_534001 := n0_
                have HO_534004 := n1_
                have BK533 := n2_
                have HB := n3_
                clear n0_ n1_ n2_ n3_
                have p546 : 0 ≤ ((ji24) : Int) := of_decide_eq_true (by first | (with_reducible assumption) | assumption)
                have q546 : (ji24) < (t535.length : Int) := of_decide_eq_true (by first | (with_reducible assumption) | assumption)
                obtain ⟨ad546, e546, hx546_0, hx546_1⟩ := at_T52 (Kd.R_reads' HO_534001.out).2.2 (ji24) p546 q546
                cases e546
                replace p546 := eq_true p546
                replace q546 := eq_true q546
                refine start_ (n := 17) (S := fun w' => w'.cell? ⟨gb533, 0, none⟩ = some (.int .i64 t534) ∧ w'.cell? ⟨gb533, 1, none⟩ = some (.slice (some ad546) t535.length co10) ∧ w'.cell? ⟨gb533, 2, none⟩ = some (.int .i64 t538) ∧ w'.cell? ⟨gb533, 3, none⟩ = some (.int .i64 t539) ∧ w'.cell? ⟨gb533, 4, none⟩ = some (.slice Ao11 t540.length co11) ∧ w'.cell? (ad546.add (((ji24)).toNat * 2)) = some (.string ((rd_T52 t535 (ji24)).f0)) ∧ w'.cell? ⟨(ad546.add (((ji24)).toNat * 2)).block, (ad546.add (((ji24)).toNat * 2)).off + 1, none⟩ = some (.string ((rd_T52 t535 (ji24)).f1))) (ds := []) (bA 17 0) (by kernel_rfl) rfl rfl ⟨(blk_cell BK533.out 0).trans rfl, (blk_cell BK533.out 1).trans rfl, (blk_cell BK533.out 2).trans rfl, (blk_cell BK533.out 3).trans rfl, (blk_cell BK533.out 4).trans rfl, hx546_0, hx546_1⟩ (fun hHeld => ?_); refine with_tabW foghornlaw12_WireOrder.tab12 foghornlaw12_WireOrder.bits12 (fun HT_ HW_ => ?_)
                generalize wr.drew = w31 at HO_534001 HO_534004 BK533 HB hx546_0 hx546_1 hHeld ⊢
                refine pure_ (i := 0) (N := some 40) (v := ?_) (a' := ?_) (bA 17 1) rfl rfl (any_of HT_.out (by kernel_rfl)) (fun _ _ _ h => h) (Or.inl ⟨by rfl, ?_⟩) ?_ ?_
                rotate_left
                ·intro w'
                 go_simp
                 with_reducible rfl
                rotate_left
                ·exact mP
                refine pure_ (i := 2) (N := some 42) (v := ?_) (a' := ?_) (bA 17 5) rfl rfl (any_of HT_.out (by kernel_rfl)) (fun _ _ _ h => h) (Or.inl ⟨by rfl, ?_⟩) ?_ ?_
                rotate_left
                ·intro w'
                 go_simp
                 with_reducible rfl
                rotate_left
                ·exact mP
                refine pure_ (i := 3) (N := some 43) (v := ?_) (a' := ?_) (bA 17 13) rfl rfl (any_of HT_.out (by kernel_rfl)) (fun _ _ _ h => h) (Or.inl ⟨by rfl, ?_⟩) ?_ ?_
                rotate_left
                ·intro w'
                 go_simp
                 with_reducible rfl
                rotate_left
                ·exact mP
                refine pure_ (i := 4) (N := some 44) (v := ?_) (a' := ?_) (bA 17 29) rfl rfl (any_of HT_.out (by kernel_rfl)) (fun _ _ _ h => h) (Or.inl ⟨by rfl, ?_⟩) ?_ ?_
                rotate_left
                ·intro w'
                 go_simp
                 with_reducible rfl
                rotate_left
                ·exact mP
                refine pure_ (i := 5) (N := some 45) (v := ?_) (a' := ?_) (bA 17 61) rfl rfl (any_of HT_.out (by kernel_rfl)) (fun _ _ _ h => h) (Or.inl ⟨by rfl, ?_⟩) ?_ ?_
                rotate_left
                ·intro w'
                 go_simp
                 with_reducible rfl
                rotate_left
                ·exact mP
                refine pure_ (i := 6) (N := some 46) (v := ?_) (a' := ?_) (bA 17 125) rfl rfl (any_of HT_.out (by kernel_rfl)) (fun _ _ _ h => h) (Or.inl ⟨by rfl, ?_⟩) ?_ ?_
                rotate_left
                ·intro w'
                 go_simp
                 with_reducible rfl
                rotate_left
                ·exact mP
                refine pure_ (i := 7) (N := some 47) (v := ?_) (a' := ?_) (bA 17 253) rfl rfl (any_of HT_.out (by kernel_rfl)) (fun _ _ _ h => h) (Or.inl ⟨by rfl, ?_⟩) ?_ ?_
                rotate_left
                ·intro w'
                 go_simp
                 with_reducible rfl
                rotate_left
                ·exact mP
                refine pure_ (i := 8) (N := some 48) (v := ?_) (a' := ?_) (bA 17 509) rfl rfl (any_of HT_.out (by kernel_rfl)) (fun _ _ _ h => h) (Or.inl ⟨by rfl, ?_⟩) ?_ ?_
                rotate_left
                ·intro w'
                 go_simp
                 with_reducible rfl
                rotate_left
                ·exact mP
                refine pure_ (i := 9) (N := some 49) (v := ?_) (a' := ?_) (bA 17 1021) rfl rfl (any_of HT_.out (by kernel_rfl)) (fun _ _ _ h => h) (Or.inl ⟨by rfl, ?_⟩) ?_ ?_
                rotate_left
                ·intro w'
                 go_simp
                 with_reducible rfl
                rotate_left
                ·exact mP
                refine pure_ (i := 10) (N := some 50) (v := ?_) (a' := ?_) (bA 17 2045) rfl rfl (any_of HT_.out (by kernel_rfl)) (fun _ _ _ h => h) (Or.inl ⟨by rfl, ?_⟩) ?_ ?_
                rotate_left
                ·intro w'
                 go_simp
                 with_reducible rfl
                rotate_left
                ·exact mP
                refine pure_ (i := 11) (N := some 51) (v := ?_) (a' := ?_) (bA 17 4093) rfl rfl (any_of HT_.out (by kernel_rfl)) (fun _ _ _ h => h) (Or.inl ⟨by rfl, ?_⟩) ?_ ?_
                rotate_left
                ·intro w'
                 go_simp
                 with_reducible rfl
                rotate_left
                ·exact mP
                refine pure_ (i := 12) (N := some 52) (v := ?_) (a' := ?_) (bA 17 8189) rfl rfl (any_of HT_.out (by kernel_rfl)) (fun _ _ _ h => h) (Or.inl ⟨by rfl, ?_⟩) ?_ ?_
                rotate_left
                ·intro w'
                 go_simp
                 with_reducible rfl
                rotate_left
                ·exact mP
                refine take_ (i := 1) (N := some 41) (v := ?_) (a' := ?_) (bA 17 8191) rfl rfl (take_ofW HT_.out HW_.out (by kernel_rfl)) (fun _ _ _ h => h) (Or.inl ⟨by rfl, ?_⟩) hHeld ?_ ?_
                rotate_left
                ·rintro w' ⟨s0, s1, s2, s3, s4, s5, s6⟩
                 go_simp
                 with_reducible rfl
                rotate_left
                ·exact mP
                refine pure_ (i := 13) (N := some 53) (v := ?_) (a' := ?_) (bA 17 16383) rfl rfl (any_of HT_.out (by kernel_rfl)) (fun _ _ _ h => h) (Or.inl ⟨by rfl, ?_⟩) ?_ ?_
                rotate_left
                ·intro w'
                 go_simp
                 with_reducible rfl
                rotate_left
                ·exact mP
                refine take_ (i := 14) (N := some 54) (v := ?_) (a' := ?_) (bA 17 32767) rfl rfl (take_ofW HT_.out HW_.out (by kernel_rfl)) (fun _ _ _ h => h) (Or.inl ⟨by rfl, ?_⟩) hHeld ?_ ?_
                rotate_left
                ·rintro w' ⟨s0, s1, s2, s3, s4, s5, s6⟩
                 go_simp
                 with_reducible rfl
                rotate_left
                ·exact mP
                refine one_ (i := 15) (N := some 10) (bA 17 65535) rfl rfl (one_of HT_.out (by kernel_rfl)) (by decide) (fun K hK => ?_)
                refine box_step ?hg (N := 10) ?hd (cs := #[.string (⟨#[]⟩ : ByteArray), .string (⟨#[]⟩ : ByteArray)]) (t := 52) ?hr ?_; (case hd => rfl); (case hg => rfl); (case hr => first | (go_simp; done) | (go_simp; rfl))
                intro gb547 hg w32 hbox hb
                have HS5_ := (hb.cell (World.block_lt_of_cell? _ _ (hHeld.2.2.2.2.2.1))).trans (hHeld.2.2.2.2.2.1)
                have HS6_ := (hb.cell (World.block_lt_of_cell? _ _ (hHeld.2.2.2.2.2.2))).trans (hHeld.2.2.2.2.2.2)
                have n0_ := aA (Kd.R_below (Kd.R_elderB (mR HO_534001.out) gb547 (Nat.le_of_eq hg.symm)) hb)
                have n1_ := aA (Kd.R_below (mR HO_534004.out) hb)
                have n2_ := aA (bB BK533.out hb)
                have n3_ := aA (below_step (mD1 GE533.out) hb)
                have n4_ := aA (hbox)
                have n5_ := aA ((bZ hg (mD1 GE533.out)))
                have n6_ := aA ((bZ hg (mD1 GE533.out)))
                have n7_ := aA ((bL hg BK533.out))
                have n8_ := aA ((bG hg BK533.out))
                clear HO_534001
                clear HO_534004
                clear BK533
                clear HB
                have HO_534001 := n0_
                have HO_534004 := n1_
                have BK533 := n2_
                have HB := n3_
                have BK547 := n4_
                have GW547 := n5_
                have GE547 := n6_
                have NB533_547 := n7_
                have NB547_533 := n8_
                clear n0_ n1_ n2_ n3_ n4_ n5_ n6_ n7_ n8_
                clear hb hbox hg
                refine hK.out _ _ ⟨(blk_cell BK533.out 0).trans rfl, (blk_cell BK533.out 1).trans rfl, (blk_cell BK533.out 2).trans rfl, (blk_cell BK533.out 3).trans rfl, (blk_cell BK533.out 4).trans rfl, HS5_, HS6_⟩ (fun hHeld => ?_)
                clear hK K
                refine norm_ (a' := ?_) ?_ ?_
                rotate_left
                ·show Act.put _ (some 10) _ = _
                 simp only [Act.put, List.setIfInBounds_toArray, List.set_cons_zero, List.set_cons_succ, i64_w, i32_w]
                 rfl
                refine one_ (i := 16) (N := none) (bA 17 131071) rfl rfl (one_of HT_.out (by kernel_rfl)) (by decide) (fun K hK => ?_)
                have hs33 : w32.cell? ⟨gb547, 0, none⟩ = some (.string (⟨#[]⟩ : ByteArray)) := (blk_cell BK547.out 0).trans rfl
                have hfs33 := blk_frozen BK547.out 0
                have hns33_0 := NB533_547.out
                have hms33_0 := NB547_533.out
                have hs34 : w32.cell? ⟨gb547, 1, none⟩ = some (.string (⟨#[]⟩ : ByteArray)) := (blk_cell BK547.out 1).trans rfl
                have hfs34 := blk_frozen BK547.out 1
                have hns34_0 := NB533_547.out
                have hms34_0 := NB547_533.out
                refine skip_ (w1 := ?_) (by rfl) rfl ?_ ?_
                rotate_left
                ·go_simp
                 rfl
                refine hK.out _ _ ⟨((cell_far (p := ⟨gb547, _, none⟩) NB533_547.out _).trans (((cell_far (p := ⟨gb547, _, none⟩) NB533_547.out _).trans (hHeld.1)))), ((cell_far (p := ⟨gb547, _, none⟩) NB533_547.out _).trans (((cell_far (p := ⟨gb547, _, none⟩) NB533_547.out _).trans (hHeld.2.1)))), ((cell_far (p := ⟨gb547, _, none⟩) NB533_547.out _).trans (((cell_far (p := ⟨gb547, _, none⟩) NB533_547.out _).trans (hHeld.2.2.1)))), ((cell_far (p := ⟨gb547, _, none⟩) NB533_547.out _).trans (((cell_far (p := ⟨gb547, _, none⟩) NB533_547.out _).trans (hHeld.2.2.2.1)))), ((cell_far (p := ⟨gb547, _, none⟩) NB533_547.out _).trans (((cell_far (p := ⟨gb547, _, none⟩) NB533_547.out _).trans (hHeld.2.2.2.2.1)))), ((cell_far (p := ⟨gb547, _, none⟩) (by first | exact Kd.own_blk (Kd.R_away HO_534001.out (fun _ hk => hk.2)) | (rw [add_block]; exact Kd.own_blk (Kd.R_away HO_534001.out (fun _ hk => hk.2))) | (show (Addr.add _ _).block ≠ _; rw [add_block]; exact Kd.own_blk (Kd.R_away HO_534001.out (fun _ hk => hk.2))) | (dsimp only; exact Kd.own_blk (Kd.R_away HO_534001.out (fun _ hk => hk.2)))) _).trans (((cell_far (p := ⟨gb547, _, none⟩) (by first | exact Kd.own_blk (Kd.R_away HO_534001.out (fun _ hk => hk.2)) | (rw [add_block]; exact Kd.own_blk (Kd.R_away HO_534001.out (fun _ hk => hk.2))) | (show (Addr.add _ _).block ≠ _; rw [add_block]; exact Kd.own_blk (Kd.R_away HO_534001.out (fun _ hk => hk.2))) | (dsimp only; exact Kd.own_blk (Kd.R_away HO_534001.out (fun _ hk => hk.2)))) _).trans (hHeld.2.2.2.2.2.1)))), ((cell_far (p := ⟨gb547, _, none⟩) (by first | exact Kd.own_blk (Kd.R_away HO_534001.out (fun _ hk => hk.2)) | (rw [add_block]; exact Kd.own_blk (Kd.R_away HO_534001.out (fun _ hk => hk.2))) | (show (Addr.add _ _).block ≠ _; rw [add_block]; exact Kd.own_blk (Kd.R_away HO_534001.out (fun _ hk => hk.2))) | (dsimp only; exact Kd.own_blk (Kd.R_away HO_534001.out (fun _ hk => hk.2)))) _).trans (((cell_far (p := ⟨gb547, _, none⟩) (by first | exact Kd.own_blk (Kd.R_away HO_534001.out (fun _ hk => hk.2)) | (rw [add_block]; exact Kd.own_blk (Kd.R_away HO_534001.out (fun _ hk => hk.2))) | (show (Addr.add _ _).block ≠ _; rw [add_block]; exact Kd.own_blk (Kd.R_away HO_534001.out (fun _ hk => hk.2))) | (dsimp only; exact Kd.own_blk (Kd.R_away HO_534001.out (fun _ hk => hk.2)))) _).trans (hHeld.2.2.2.2.2.2))))⟩ (fun hHeld => ?_)
                clear hK K
                refine done_ (done_of HT_.out (by kernel_rfl)) ?_
                have hnb35 := NB547_533.out
                have hnc35 := NB533_547.out
                obtain ⟨hcz36_0, hcz36_1⟩ := bC2 BK547.out
                obtain ⟨hfz36_0, hfz36_1⟩ := bF2 BK547.out
                try go_wp2
                go_roundg k3
                case measure => have := HJ4.out; have := HJ17.out; have := HK3.out; omega
                case rel => exact ⟨(x7_3 ++ ((((⟨#[32]⟩ : ByteArray) ++ ((rd_T52 t535 (ji24)).f0)) ++ (⟨#[61]⟩ : ByteArray)) ++ ((rd_T52 t535 (ji24)).f1))), (wrap64 (x37_3 + 1)), (by first | rfl | (simp; done) | (simp only [← hji24] <;> (first | rfl | simp)) | (simp [*]; done)), (by first | rfl | (simp; done) | (simp [*]; done)), H', ⟨by have := HJ4.out; have := HJ17.out; have := HK3.out; omega⟩, ⟨by (with_reducible repeat (first | apply Kd.R_alloc | apply Kd.R_drewN | apply Kd.R_drew)); exact Kd.R_mono (rF 1 (rF 0 (Kd.R_mono HO_534001.out (fun k_ hk => (⟨hk, hk.2⟩ : _ ∧ k_ ≠ gb547))))) (fun _ hk => trivial)⟩, ⟨by (with_reducible repeat (first | apply Kd.R_alloc | apply Kd.R_drewN | apply Kd.R_drew)); exact Kd.R_mono (rF 1 (rF 0 (Kd.R_types HO_534004.out BK547.out (by decide)))) (fun _ hk => trivial)⟩, ⟨by (with_reducible repeat (first | refine blk_drewN ?_ _ | refine blk_drew ?_ | refine blk_alloc ?_ _)); refine blk_far ?_ NB533_547.out _; (with_reducible repeat (first | refine blk_drewN ?_ _ | refine blk_drew ?_ | refine blk_alloc ?_ _)); refine blk_far ?_ NB533_547.out _; (with_reducible repeat (first | refine blk_drewN ?_ _ | refine blk_drew ?_ | refine blk_alloc ?_ _)); exact BK533.out⟩, ⟨by repeat (first | (with_reducible first | exact HB.out | apply below_alloc | apply pw_below_drewN | apply below_drew1 | refine below_set ?_ GE533.out | refine below_set ?_ GE547.out) | exact HB.out)⟩⟩
               ·rw [if_neg c30] at H
                exact absurd H (by simp)
              ·rw [if_neg c29] at H
               exact absurd H (by simp)
             ·rw [if_neg c28] at H
              exact absurd H (by simp)
            ·rw [if_neg c27] at H
             exact absurd H (by simp)
           ·rw [if_neg c26] at H
            exact absurd H (by simp)
          ·rw [if_neg c25] at H
           exact absurd H (by simp)
        ·rw [if_neg c22] at H
         have c22b0 : decide (x37_3 < (t535.length : Int)) = false := decide_eq_false c22
         clear c22
         replace H := Option.bind_eq_some_iff.mp H
         obtain ⟨⟨t548, t549, t552, t553, t554, t557⟩, A370, H⟩ := H
         have A37 := aA A370
         clear A370
         replace H := Option.bind_eq_some_iff.mp H
         obtain ⟨⟨t559, t560, t563, t564, t565, t568⟩, A380, H⟩ := H
         have A38 := aA A380
         clear A380
         replace H := Option.bind_eq_some_iff.mp H
         obtain ⟨t570, A390, H⟩ := H
         have A39 := aA A390
         clear A390
         by_cases c40 : t570 = true
         ·subst c40
          have H1 : (if t557 = 0 then (if t568 = 0 then ((foghornref12_Same.f k3 t548 t549 t552 t553 t554 t559 t560 t563 t564 t565).bind fun t571 => (if t571 = true then ((foghornref12_Same.f k3 t548 t549 t552 t553 t554 t534 t535 t538 t539 t540).bind fun t572 => (some t572)) else (some false))) else (some false)) else (some false)) = some r := by rw [if_pos rfl] at H; exact H
          clear H
          have H := H1
          clear H1
          by_cases c41 : t557 = 0
          ·rw [if_pos c41] at H
           have c41b0 : (t557 == 0) = true := beq_iff_eq.mpr c41
           have c41b1 : (t557 != 0) = false := bne_eq_false_iff_eq.mpr c41
           clear c41
           by_cases c42 : t568 = 0
           ·rw [if_pos c42] at H
            have c42b0 : (t568 == 0) = true := beq_iff_eq.mpr c42
            have c42b1 : (t568 != 0) = false := bne_eq_false_iff_eq.mpr c42
            clear c42
            replace H := Option.bind_eq_some_iff.mp H
            obtain ⟨t571, A430, H⟩ := H
            have A43 := aA A430
            clear A430
            by_cases c44 : t571 = true
            ·subst c44
             have H1 : ((foghornref12_Same.f k3 t548 t549 t552 t553 t554 t534 t535 t538 t539 t540).bind fun t572 => (some t572)) = some r := by rw [if_pos rfl] at H; exact H
             clear H
             have H := H1
             clear H1
             replace H := Option.bind_eq_some_iff.mp H
             obtain ⟨t572, A450, H⟩ := H
             have A45 := aA A450
             clear A450
             obtain rfl := Option.some.inj H
             go_wp2_with (first | ((with_reducible refine gate_callee (f := 10) rfl ?_); refine goesL_ (some 67) rfl rfl Tryz.func10 (by kernel_rfl) rfl #[.string x7_3] rfl mS ?_; (with_reducible refine (wire_Parse.calls k3 x7_3 t548 t549 t552 t553 t554 t557 _ ?side1 A37.out).mono ?_); (case side1 => exact gok_below HG.out (mD1 GE533.out)); rintro e w46 ⟨v550, v555, rfl, ho0, ho1, hb⟩; refine ⟨_, rfl, ?_⟩; have n0_ := aA (Kd.R_elder' (mR HO_534001.out) (Kd.R_base ho0) hb); have n1_ := aA (Kd.R_elder' (mR HO_534004.out) (Kd.R_base ho1) hb); have n2_ := aA (Kd.R_lower (Kd.R_new' ho0 (Kd.R_lt (mR HO_534001.out))) (below_size (mD1 GE533.out))); have n3_ := aA (Kd.R_lower (Kd.R_new' ho1 (Kd.R_lt (mR HO_534004.out))) (below_size (mD1 GE533.out))); have n4_ := aA (bB BK533.out hb); have n5_ := aA (below_step (mD1 GE533.out) hb); clear HO_534001 HO_534004 BK533 HB; have HO_534001 := n0_; have HO_534004 := n1_; have HO551 := n2_; have HO556 := n3_; have BK533 := n4_; have HB := n5_; clear n0_ n1_ n2_ n3_ n4_ n5_; (try clear hb); (try clear hb2); (try clear hk); (try clear hi); (try clear ho0); (try clear ho1)) | ((with_reducible refine gate_dst (N := 11) rfl ?_); refine box_event ?hg (N := 11) ?hd (cs := #[.int .i64 0, .slice none 0 0, .int .i64 0, .int .i64 0, .slice none 0 0]) (t := 27) ?hr ?_; (case hd => rfl); (case hg => rfl); (case hr => first | (go_simp; done) | (go_simp; rfl)); intro gb558 hg w47 hbox hb; have n0_ := aA (Kd.R_below (mR HO_534001.out) hb); have n1_ := aA (Kd.R_below (mR HO_534004.out) hb); have n2_ := aA (Kd.R_below (mR HO551.out) hb); have n3_ := aA (Kd.R_below (mR HO556.out) hb); have n4_ := aA (bB BK533.out hb); have n5_ := aA (below_step (mD1 GE533.out) hb); have n6_ := aA (hbox); have n7_ := aA ((bZ hg (mD1 GE533.out))); have n8_ := aA ((bZ hg (mD1 GE533.out))); have n9_ := aA ((bL hg BK533.out)); have n10_ := aA ((bG hg BK533.out)); clear HO_534001 HO_534004 HO551 HO556 BK533 HB; have HO_534001 := n0_; have HO_534004 := n1_; have HO551 := n2_; have HO556 := n3_; have BK533 := n4_; have HB := n5_; have BK558 := n6_; have GW558 := n7_; have GE558 := n8_; have NB533_558 := n9_; have NB558_533 := n10_; clear n0_ n1_ n2_ n3_ n4_ n5_ n6_ n7_ n8_ n9_ n10_ hb hbox hg; have hnb48 := NB558_533.out; have hnc48 := NB533_558.out; obtain ⟨hcz49_0, hcz49_1, hcz49_2, hcz49_3, hcz49_4⟩ := bC5 BK558.out; obtain ⟨hfz49_0, hfz49_1, hfz49_2, hfz49_3, hfz49_4⟩ := bF5 BK558.out; obtain ⟨Ao50, co50, eo50⟩ := Kd.R_slice HO551.out; subst eo50; obtain ⟨Ao51, co51, eo51⟩ := Kd.R_slice HO556.out; subst eo51) | ((with_reducible refine gate_callee (f := 10) rfl ?_); refine goesL_ (some 72) rfl rfl Tryz.func10 (by kernel_rfl) rfl #[.string t543] rfl mS ?_; (with_reducible refine (wire_Parse.calls k3 t543 t559 t560 t563 t564 t565 t568 _ ?side1 A38.out).mono ?_); (case side1 => exact gok_below HG.out (mD2 GE533.out GE558.out)); rintro e w52 ⟨v561, v566, rfl, ho0, ho1, hb⟩; refine ⟨_, rfl, ?_⟩; have n0_ := aA (Kd.R_elder' (by (with_reducible repeat (first | apply Kd.R_alloc | apply Kd.R_drewN | apply Kd.R_drew)); exact (Kd.R_mono (rF 4 (rF 3 (rF 2 (rF 1 (rF 0 (Kd.R_types HO_534001.out BK558.out (by decide))))))) (fun _ h_ => h_.1))) (Kd.R_base ho0) hb); have n1_ := aA (Kd.R_elder' (by (with_reducible repeat (first | apply Kd.R_alloc | apply Kd.R_drewN | apply Kd.R_drew)); exact (Kd.R_mono (rF 4 (rF 3 (rF 2 (rF 1 (rF 0 (Kd.R_types HO_534004.out BK558.out (by decide))))))) (fun _ h_ => h_.1))) (Kd.R_base ho1) hb); have n2_ := aA (Kd.R_elder' (by (with_reducible repeat (first | apply Kd.R_alloc | apply Kd.R_drewN | apply Kd.R_drew)); exact (Kd.R_mono (rF 4 (rF 3 (rF 2 (rF 1 (rF 0 (Kd.R_types HO551.out BK558.out (by decide))))))) (fun _ h_ => h_.1))) (Kd.R_base ho0) hb); have n3_ := aA (Kd.R_elder' (by (with_reducible repeat (first | apply Kd.R_alloc | apply Kd.R_drewN | apply Kd.R_drew)); exact (Kd.R_mono (rF 4 (rF 3 (rF 2 (rF 1 (rF 0 (Kd.R_types HO556.out BK558.out (by decide))))))) (fun _ h_ => h_.1))) (Kd.R_base ho1) hb); have n4_ := aA (Kd.R_lower (Kd.R_new' (Kd.R_new' ho0 (Kd.R_lt (by (with_reducible repeat (first | apply Kd.R_alloc | apply Kd.R_drewN | apply Kd.R_drew)); exact (Kd.R_mono (rF 4 (rF 3 (rF 2 (rF 1 (rF 0 (Kd.R_types HO_534001.out BK558.out (by decide))))))) (fun _ h_ => h_.1))))) (Kd.R_lt (by (with_reducible repeat (first | apply Kd.R_alloc | apply Kd.R_drewN | apply Kd.R_drew)); exact (Kd.R_mono (rF 4 (rF 3 (rF 2 (rF 1 (rF 0 (Kd.R_types HO551.out BK558.out (by decide))))))) (fun _ h_ => h_.1))))) (below_size (mD2 GE533.out GE558.out))); have n5_ := aA (Kd.R_lower (Kd.R_new' (Kd.R_new' ho1 (Kd.R_lt (by (with_reducible repeat (first | apply Kd.R_alloc | apply Kd.R_drewN | apply Kd.R_drew)); exact (Kd.R_mono (rF 4 (rF 3 (rF 2 (rF 1 (rF 0 (Kd.R_types HO_534004.out BK558.out (by decide))))))) (fun _ h_ => h_.1))))) (Kd.R_lt (by (with_reducible repeat (first | apply Kd.R_alloc | apply Kd.R_drewN | apply Kd.R_drew)); exact (Kd.R_mono (rF 4 (rF 3 (rF 2 (rF 1 (rF 0 (Kd.R_types HO556.out BK558.out (by decide))))))) (fun _ h_ => h_.1))))) (below_size (mD2 GE533.out GE558.out))); have n6_ := aA (blk_below (g := gb533) (o := .cells #[.int .i64 t534, .slice Ao10 t535.length co10, .int .i64 t538, .int .i64 t539, .slice Ao11 t540.length co11] 27 (0, 0)) (by (with_reducible repeat (first | refine blk_drewN ?_ _ | refine blk_drew ?_ | refine blk_alloc ?_ _)); refine blk_far ?_ NB533_558.out _; (with_reducible repeat (first | refine blk_drewN ?_ _ | refine blk_drew ?_ | refine blk_alloc ?_ _)); refine blk_far ?_ NB533_558.out _; (with_reducible repeat (first | refine blk_drewN ?_ _ | refine blk_drew ?_ | refine blk_alloc ?_ _)); refine blk_far ?_ NB533_558.out _; (with_reducible repeat (first | refine blk_drewN ?_ _ | refine blk_drew ?_ | refine blk_alloc ?_ _)); refine blk_far ?_ NB533_558.out _; (with_reducible repeat (first | refine blk_drewN ?_ _ | refine blk_drew ?_ | refine blk_alloc ?_ _)); refine blk_far ?_ NB533_558.out _; (with_reducible repeat (first | refine blk_drewN ?_ _ | refine blk_drew ?_ | refine blk_alloc ?_ _)); exact BK533.out) hb); have n7_ := aA (blk_below (g := gb558) (o := .cells #[.int .i64 t548, .slice Ao50 t549.length co50, .int .i64 t552, .int .i64 t553, .slice Ao51 t554.length co51] 27 (0, 0)) (by (with_reducible repeat (first | refine blk_drewN ?_ _ | refine blk_drew ?_ | refine blk_alloc ?_ _)); have h_ := BK558.out; exact pK 4 (pK 3 (pK 2 (pK 1 (pK 0 (h_)))))) hb); have n8_ := aA (below_step (mD2 GE533.out GE558.out) hb); clear HO_534001 HO_534004 HO551 HO556 BK533 BK558 HB; have HO_534001 := n0_; have HO_534004 := n1_; have HO551 := n2_; have HO556 := n3_; have HO562 := n4_; have HO567 := n5_; have BK533 := n6_; have BK558 := n7_; have HB := n8_; clear n0_ n1_ n2_ n3_ n4_ n5_ n6_ n7_ n8_; (try clear hb); (try clear hb2); (try clear hk); (try clear hi); (try clear ho0); (try clear ho1)) | ((with_reducible refine gate_dst (N := 13) rfl ?_); refine box_event ?hg (N := 13) ?hd (cs := #[.int .i64 0, .slice none 0 0, .int .i64 0, .int .i64 0, .slice none 0 0]) (t := 27) ?hr ?_; (case hd => rfl); (case hg => rfl); (case hr => first | (go_simp; done) | (go_simp; rfl)); intro gb569 hg w53 hbox hb; have n0_ := aA (Kd.R_below (mR HO_534001.out) hb); have n1_ := aA (Kd.R_below (mR HO_534004.out) hb); have n2_ := aA (Kd.R_below (mR HO551.out) hb); have n3_ := aA (Kd.R_below (mR HO556.out) hb); have n4_ := aA (Kd.R_below (mR HO562.out) hb); have n5_ := aA (Kd.R_below (mR HO567.out) hb); have n6_ := aA (bB BK533.out hb); have n7_ := aA (bB BK558.out hb); have n8_ := aA (below_step (mD2 GE533.out GE558.out) hb); have n9_ := aA (hbox); have n10_ := aA ((bZ hg (mD2 GE533.out GE558.out))); have n11_ := aA ((bZ hg (mD2 GE533.out GE558.out))); have n12_ := aA ((bL hg BK533.out)); have n13_ := aA ((bG hg BK533.out)); have n14_ := aA ((bL hg BK558.out)); have n15_ := aA ((bG hg BK558.out)); clear HO_534001 HO_534004 HO551 HO556 HO562 HO567 BK533 BK558 HB; have HO_534001 := n0_; have HO_534004 := n1_; have HO551 := n2_; have HO556 := n3_; have HO562 := n4_; have HO567 := n5_; have BK533 := n6_; have BK558 := n7_; have HB := n8_; have BK569 := n9_; have GW569 := n10_; have GE569 := n11_; have NB533_569 := n12_; have NB569_533 := n13_; have NB558_569 := n14_; have NB569_558 := n15_; clear n0_ n1_ n2_ n3_ n4_ n5_ n6_ n7_ n8_ n9_ n10_ n11_ n12_ n13_ n14_ n15_ hb hbox hg; have hnb54 := NB569_533.out; have hnc54 := NB533_569.out; have hnb55 := NB569_558.out; have hnc55 := NB558_569.out; obtain ⟨hcz56_0, hcz56_1, hcz56_2, hcz56_3, hcz56_4⟩ := bC5 BK569.out; obtain ⟨hfz56_0, hfz56_1, hfz56_2, hfz56_3, hfz56_4⟩ := bF5 BK569.out; obtain ⟨Ao57, co57, eo57⟩ := Kd.R_slice HO562.out; subst eo57; obtain ⟨Ao58, co58, eo58⟩ := Kd.R_slice HO567.out; subst eo58) | ((with_reducible refine gate_callee (f := 15) rfl ?_); refine goesL_ (some 75) rfl rfl Tryz.func15 (by kernel_rfl) rfl #[] rfl mS ?_; (with_reducible refine (foghornlaw12_alive.calls k3  true _ ?side1 A39.out).mono ?_); (case side1 => exact gok_below HG.out (mD3 GE533.out GE558.out GE569.out)); rintro e w59 ⟨rfl, hb⟩; refine ⟨_, rfl, ?_⟩; have n0_ := aA (Kd.R_below (by (with_reducible repeat (first | apply Kd.R_alloc | apply Kd.R_drewN | apply Kd.R_drew)); exact (Kd.R_mono (rF 4 (rF 3 (rF 2 (rF 1 (rF 0 (Kd.R_types HO_534001.out BK569.out (by decide))))))) (fun _ h_ => h_.1))) hb); have n1_ := aA (Kd.R_below (by (with_reducible repeat (first | apply Kd.R_alloc | apply Kd.R_drewN | apply Kd.R_drew)); exact (Kd.R_mono (rF 4 (rF 3 (rF 2 (rF 1 (rF 0 (Kd.R_types HO_534004.out BK569.out (by decide))))))) (fun _ h_ => h_.1))) hb); have n2_ := aA (Kd.R_below (by (with_reducible repeat (first | apply Kd.R_alloc | apply Kd.R_drewN | apply Kd.R_drew)); exact (Kd.R_mono (rF 4 (rF 3 (rF 2 (rF 1 (rF 0 (Kd.R_types HO551.out BK569.out (by decide))))))) (fun _ h_ => h_.1))) hb); have n3_ := aA (Kd.R_below (by (with_reducible repeat (first | apply Kd.R_alloc | apply Kd.R_drewN | apply Kd.R_drew)); exact (Kd.R_mono (rF 4 (rF 3 (rF 2 (rF 1 (rF 0 (Kd.R_types HO556.out BK569.out (by decide))))))) (fun _ h_ => h_.1))) hb); have n4_ := aA (Kd.R_below (by (with_reducible repeat (first | apply Kd.R_alloc | apply Kd.R_drewN | apply Kd.R_drew)); exact (Kd.R_mono (rF 4 (rF 3 (rF 2 (rF 1 (rF 0 (Kd.R_types HO562.out BK569.out (by decide))))))) (fun _ h_ => h_.1))) hb); have n5_ := aA (Kd.R_below (by (with_reducible repeat (first | apply Kd.R_alloc | apply Kd.R_drewN | apply Kd.R_drew)); exact (Kd.R_mono (rF 4 (rF 3 (rF 2 (rF 1 (rF 0 (Kd.R_types HO567.out BK569.out (by decide))))))) (fun _ h_ => h_.1))) hb); have n6_ := aA (blk_below (g := gb533) (o := .cells #[.int .i64 t534, .slice Ao10 t535.length co10, .int .i64 t538, .int .i64 t539, .slice Ao11 t540.length co11] 27 (0, 0)) (by (with_reducible repeat (first | refine blk_drewN ?_ _ | refine blk_drew ?_ | refine blk_alloc ?_ _)); refine blk_far ?_ NB533_569.out _; (with_reducible repeat (first | refine blk_drewN ?_ _ | refine blk_drew ?_ | refine blk_alloc ?_ _)); refine blk_far ?_ NB533_569.out _; (with_reducible repeat (first | refine blk_drewN ?_ _ | refine blk_drew ?_ | refine blk_alloc ?_ _)); refine blk_far ?_ NB533_569.out _; (with_reducible repeat (first | refine blk_drewN ?_ _ | refine blk_drew ?_ | refine blk_alloc ?_ _)); refine blk_far ?_ NB533_569.out _; (with_reducible repeat (first | refine blk_drewN ?_ _ | refine blk_drew ?_ | refine blk_alloc ?_ _)); refine blk_far ?_ NB533_569.out _; (with_reducible repeat (first | refine blk_drewN ?_ _ | refine blk_drew ?_ | refine blk_alloc ?_ _)); exact BK533.out) hb); have n7_ := aA (blk_below (g := gb558) (o := .cells #[.int .i64 t548, .slice Ao50 t549.length co50, .int .i64 t552, .int .i64 t553, .slice Ao51 t554.length co51] 27 (0, 0)) (by (with_reducible repeat (first | refine blk_drewN ?_ _ | refine blk_drew ?_ | refine blk_alloc ?_ _)); refine blk_far ?_ NB558_569.out _; (with_reducible repeat (first | refine blk_drewN ?_ _ | refine blk_drew ?_ | refine blk_alloc ?_ _)); refine blk_far ?_ NB558_569.out _; (with_reducible repeat (first | refine blk_drewN ?_ _ | refine blk_drew ?_ | refine blk_alloc ?_ _)); refine blk_far ?_ NB558_569.out _; (with_reducible repeat (first | refine blk_drewN ?_ _ | refine blk_drew ?_ | refine blk_alloc ?_ _)); refine blk_far ?_ NB558_569.out _; (with_reducible repeat (first | refine blk_drewN ?_ _ | refine blk_drew ?_ | refine blk_alloc ?_ _)); refine blk_far ?_ NB558_569.out _; (with_reducible repeat (first | refine blk_drewN ?_ _ | refine blk_drew ?_ | refine blk_alloc ?_ _)); exact BK558.out) hb); have n8_ := aA (blk_below (g := gb569) (o := .cells #[.int .i64 t559, .slice Ao57 t560.length co57, .int .i64 t563, .int .i64 t564, .slice Ao58 t565.length co58] 27 (0, 0)) (by (with_reducible repeat (first | refine blk_drewN ?_ _ | refine blk_drew ?_ | refine blk_alloc ?_ _)); have h_ := BK569.out; exact pK 4 (pK 3 (pK 2 (pK 1 (pK 0 (h_)))))) hb); have n9_ := aA (below_step (mD3 GE533.out GE558.out GE569.out) hb); clear HO_534001 HO_534004 HO551 HO556 HO562 HO567 BK533 BK558 BK569 HB; have HO_534001 := n0_; have HO_534004 := n1_; have HO551 := n2_; have HO556 := n3_; have HO562 := n4_; have HO567 := n5_; have BK533 := n6_; have BK558 := n7_; have BK569 := n8_; have HB := n9_; clear n0_ n1_ n2_ n3_ n4_ n5_ n6_ n7_ n8_ n9_; (try clear hb); (try clear hb2); (try clear hk); (try clear hi); obtain ⟨hcz60_0, hcz60_1, hcz60_2, hcz60_3, hcz60_4⟩ := bC5 BK558.out; obtain ⟨hfz60_0, hfz60_1, hfz60_2, hfz60_3, hfz60_4⟩ := bF5 BK558.out; obtain ⟨hcz61_0, hcz61_1, hcz61_2, hcz61_3, hcz61_4⟩ := bC5 BK569.out; obtain ⟨hfz61_0, hfz61_1, hfz61_2, hfz61_3, hfz61_4⟩ := bF5 BK569.out) | (go_at_call 14; (with_reducible refine (foghornref12_Same.calls k3 t548 _ _ t549 t552 t553 _ _ t554 t559 _ _ t560 t563 t564 _ _ t565 true _ ?side1 ?side2 ?side3 ?side4 ?side5 ?side6 ?side7 ?side8 A43.out).mono ?_); (case side1 => exact mC ((Kd.R_reads' HO551.out).2.2)); (case side2 => exact (Kd.R_reads' HO551.out).2.1); (case side3 => exact mC ((Kd.R_reads' HO556.out).2.2)); (case side4 => exact (Kd.R_reads' HO556.out).2.1); (case side5 => exact mC ((Kd.R_reads' HO562.out).2.2)); (case side6 => exact (Kd.R_reads' HO562.out).2.1); (case side7 => exact mC ((Kd.R_reads' HO567.out).2.2)); (case side8 => exact (Kd.R_reads' HO567.out).2.1); rintro e w62 ⟨rfl, hb⟩; have n0_ := aA (Kd.R_below (mR HO_534001.out) hb); have n1_ := aA (Kd.R_below (mR HO_534004.out) hb); have n2_ := aA (Kd.R_below (mR HO551.out) hb); have n3_ := aA (Kd.R_below (mR HO556.out) hb); have n4_ := aA (Kd.R_below (mR HO562.out) hb); have n5_ := aA (Kd.R_below (mR HO567.out) hb); have n6_ := aA (bB BK533.out hb); have n7_ := aA (bB BK558.out hb); have n8_ := aA (bB BK569.out hb); have n9_ := aA (below_step (mD3 GE533.out GE558.out GE569.out) hb); clear HO_534001 HO_534004 HO551 HO556 HO562 HO567 BK533 BK558 BK569 HB; have HO_534001 := n0_; have HO_534004 := n1_; have HO551 := n2_; have HO556 := n3_; have HO562 := n4_; have HO567 := n5_; have BK533 := n6_; have BK558 := n7_; have BK569 := n8_; have HB := n9_; clear n0_ n1_ n2_ n3_ n4_ n5_ n6_ n7_ n8_ n9_; (try clear hb); (try clear hb2); (try clear hk); (try clear hi); obtain ⟨hcz63_0, hcz63_1, hcz63_2, hcz63_3, hcz63_4⟩ := bC5 BK558.out; obtain ⟨hfz63_0, hfz63_1, hfz63_2, hfz63_3, hfz63_4⟩ := bF5 BK558.out; obtain ⟨hcz64_0, hcz64_1, hcz64_2, hcz64_3, hcz64_4⟩ := bC5 BK533.out; obtain ⟨hfz64_0, hfz64_1, hfz64_2, hfz64_3, hfz64_4⟩ := bF5 BK533.out) | (go_at_call 14; (with_reducible refine (foghornref12_Same.calls k3 t548 _ _ t549 t552 t553 _ _ t554 t534 _ _ t535 t538 t539 _ _ t540 t572 _ ?side1 ?side2 ?side3 ?side4 ?side5 ?side6 ?side7 ?side8 A45.out).mono ?_); (case side1 => exact mC ((Kd.R_reads' HO551.out).2.2)); (case side2 => exact (Kd.R_reads' HO551.out).2.1); (case side3 => exact mC ((Kd.R_reads' HO556.out).2.2)); (case side4 => exact (Kd.R_reads' HO556.out).2.1); (case side5 => exact mC ((Kd.R_reads' HO_534001.out).2.2)); (case side6 => exact (Kd.R_reads' HO_534001.out).2.1); (case side7 => exact mC ((Kd.R_reads' HO_534004.out).2.2)); (case side8 => exact (Kd.R_reads' HO_534004.out).2.1); rintro e w65 ⟨rfl, hb⟩; have n0_ := aA (Kd.R_below (mR HO_534001.out) hb); have n1_ := aA (Kd.R_below (mR HO_534004.out) hb); have n2_ := aA (Kd.R_below (mR HO551.out) hb); have n3_ := aA (Kd.R_below (mR HO556.out) hb); have n4_ := aA (Kd.R_below (mR HO562.out) hb); have n5_ := aA (Kd.R_below (mR HO567.out) hb); have n6_ := aA (bB BK533.out hb); have n7_ := aA (bB BK558.out hb); have n8_ := aA (bB BK569.out hb); have n9_ := aA (below_step (mD3 GE533.out GE558.out GE569.out) hb); clear HO_534001 HO_534004 HO551 HO556 HO562 HO567 BK533 BK558 BK569 HB; have HO_534001 := n0_; have HO_534004 := n1_; have HO551 := n2_; have HO556 := n3_; have HO562 := n4_; have HO567 := n5_; have BK533 := n6_; have BK558 := n7_; have BK569 := n8_; have HB := n9_; clear n0_ n1_ n2_ n3_ n4_ n5_ n6_ n7_ n8_ n9_; (try clear hb); (try clear hb2); (try clear hk); (try clear hi)))
             go_ret
             exact ⟨by first | rfl | (simp [errW_none, errW_some] <;> rfl) | (simp [*, errW_none, errW_some] <;> rfl), by repeat (first | (with_reducible first | exact HB.out | apply below_alloc | apply pw_below_drewN | apply below_drew1 | refine below_set ?_ GE533.out | refine below_set ?_ GE558.out | refine below_set ?_ GE569.out) | exact HB.out)⟩
            ·replace c44 := Bool.eq_false_iff.mpr c44
             subst c44
             have H1 : (some false) = some r := by rw [if_neg (show ¬ (false = true) by decide)] at H; exact H
             clear H
             have H := H1
             clear H1
             exact absurd (Option.some.inj H) (by rw [hrt_]; decide)
           ·rw [if_neg c42] at H
            have c42b0 : (t568 == 0) = false := beq_eq_false_iff_ne.mpr c42
            have c42b1 : (t568 != 0) = true := bne_iff_ne.mpr c42
            exact absurd (Option.some.inj H) (by rw [hrt_]; decide)
          ·rw [if_neg c41] at H
           have c41b0 : (t557 == 0) = false := beq_eq_false_iff_ne.mpr c41
           have c41b1 : (t557 != 0) = true := bne_iff_ne.mpr c41
           exact absurd (Option.some.inj H) (by rw [hrt_]; decide)
         ·replace c40 := Bool.eq_false_iff.mpr c40
          subst c40
          have H1 : (some false) = some r := by rw [if_neg (show ¬ (false = true) by decide)] at H; exact H
          clear H
          have H := H1
          clear H1
          exact absurd (Option.some.inj H) (by rw [hrt_]; decide)
end Go.Proofs.YtjfknmlchdifjaaGreatDoorQ.P
namespace Go.Proofs.YtjfknmlchdifjaaGreatDoorQ.P
open Go.RowKit Go.Proofs.YtjfknmlchdifjaaGreatDoorW.PrintWords Go.Proofs.YtjfknmlchdifjaaGreatDoorW.PrintLast Go.Proofs.YtjfknmlchdifjaaGreatDoorW.PrintMore Go.Proofs.YtjfknmlchdifjaaGreatDoor
def msgSz (m : Msg) : Prop := (∀ x ∈ m.labs, x.name.size ≤ 1000 ∧ x.value.size ≤ 1000) ∧ (∀ x ∈ m.asked, x.name.size ≤ 1000 ∧ x.value.size ≤ 1000) ∧ m.labs.length ≤ 100 ∧ m.asked.length ≤ 100
theorem labRight_f {l : List Lab} (h : ∀ x ∈ l, x.name.size ≤ 1000 ∧ x.value.size ≤ 1000) : label_Right.f (l.map ofLab) = some (labsB l) := by
  unfold label_Right.f
  rw [if_pos (labsOkB_of fun x hx => by have := h x hx; omega), labs_to_of]
theorem isHush_f {f t : Int} {l : List Mat} (h : ∀ x ∈ l, x.name.size ≤ 1000 ∧ x.value.size ≤ 1000) : wire_isHush.f f t (l.map ofMat) = some (hushB f t l) := by
  unfold wire_isHush.f
  rw [if_pos (matsOkB_of fun x hx => by have := h x hx; omega), mats_to_of]
theorem len_zero {α : Type} (l : List α) : ((l.length : Int) = 0) = (l = []) := by
  cases l <;> simp
  omega
theorem len_zeroB {α : Type} [DecidableEq α] (l : List α) : ((l.length : Int) == 0) = decide (l = []) := by
  rw [Bool.eq_iff_iff, beq_iff_eq, decide_eq_true_eq, len_zero]
theorem right_f {m : Msg} (h : msgSz m) : wire_Right.f m.kind (m.labs.map ofLab) m.fr m.til (m.asked.map ofMat) = some m.okB := by
  obtain ⟨kind, labs, fr, tt, asked⟩ := m
  obtain ⟨h1, h2, _⟩ := h
  simp only at h1 h2 ⊢
  unfold wire_Right.f Msg.okB
  rw [labRight_f h1, isHush_f h2, List.length_map, List.length_map, len_zeroB]
  simp only [Option.bind_some]
  by_cases k2 : kind = 2
  · rw [if_pos k2, if_pos k2]
    by_cases hl : labs = []
    · rw [if_pos (by rw [hl]; rfl), decide_eq_true hl, Bool.true_and]
    · rw [if_neg (by rw [len_zero]; exact hl), decide_eq_false hl, Bool.false_and]
  · rw [if_neg k2, if_neg k2]
    by_cases f0 : fr = 0 <;> by_cases t0 : tt = 0 <;> by_cases k0 : kind = 0 <;> by_cases k1 : kind = 1 <;> cases labsB labs <;> simp [f0, t0, k0, k1]
theorem sign_at {k : Int} (h0 : 0 ≤ k) (h3 : k ≤ 3) : signs.getD k.toNat 0 = signOf k := by
  have : k = 0 ∨ k = 1 ∨ k = 2 ∨ k = 3 := by omega
  rcases this with rfl | rfl | rfl | rfl <;> rfl
theorem ask_tx (m : Mat) : (m.name ++ tx [signOf m.kind]) ++ m.value = tx (askW m) := by
  have e1 : m.name = tx m.name.data.toList := (tx_of _).symm
  have e2 : m.value = tx m.value.data.toList := (tx_of _).symm
  conv => lhs; rw [e1, e2]
  rw [tx_app, tx_app]
  unfold askW
  simp
theorem wask_f {m : Mat} (h : m.name.size ≤ 1000 ∧ m.value.size ≤ 1000) : wire_Ask.f m.kind m.name m.value = some (if matB m = true then (tx (askW m), 0) else (⟨#[]⟩, 1)) := by
  unfold wire_Ask.f label_Matcher.f
  rw [if_pos (matOkB_of (by omega) (by omega)), Option.bind_some]
  by_cases hm : matB m = true
  · obtain ⟨h0, h3, _, _⟩ := matB_parts hm
    have e : (⟨#[61, 33, 94, 63]⟩ : ByteArray).extract (m.kind : Int).toNat (wrap64 (m.kind + 1) : Int).toNat = tx [signOf m.kind] := by
      rw [w64 (by omega) (by omega), ex_mid, show (m.kind + 1).toNat - m.kind.toNat = 1 by omega, ← sign_at h0 h3]
      have : m.kind = 0 ∨ m.kind = 1 ∨ m.kind = 2 ∨ m.kind = 3 := by omega
      rcases this with e | e | e | e <;> (rw [e]; rfl)
    rw [if_pos (show matB ⟨m.kind, m.name, m.value⟩ = true from hm), e, w64 (by omega) (by omega), if_pos (by omega), if_pos (by omega), if_pos (by omega), if_pos (by rw [tx_size]; simp; omega), if_pos (by rw [ByteArray.size_append, tx_size]; simp; omega), if_pos hm, ask_tx]
  · rw [if_neg (show ¬ matB ⟨m.kind, m.name, m.value⟩ = true from hm), if_neg hm]
theorem rdLm {xs : List Lab} {i : Nat} (h : i < xs.length) : rd_T52 (xs.map ofLab) (i : Int) = ofLab xs[i] := by rw [rdL (by rw [List.length_map]; exact h), List.getElem_map]
theorem rdMm {xs : List Mat} {i : Nat} (h : i < xs.length) : rd_T32 (xs.map ofMat) (i : Int) = ofMat xs[i] := by rw [rdM (by rw [List.length_map]; exact h), List.getElem_map]
theorem lab_tx (x : Lab) : (x.name ++ (⟨#[61]⟩ : ByteArray)) ++ x.value = tx (labW x) := by
  have e1 : x.name = tx x.name.data.toList := (tx_of _).symm
  have e2 : x.value = tx x.value.data.toList := (tx_of _).symm
  conv => lhs; rw [e1, e2]
  rw [show (⟨#[61]⟩ : ByteArray) = tx [61] from rfl, tx_app, tx_app]
  unfold labW
  simp
theorem joinT_tx (ws : List (List UInt8)) (c : UInt8) : joinT (ws.map tx) c = tx (joinW c ws) := by
  unfold joinT
  rw [List.map_map]
  have : ((fun x : ByteArray => x.data.toList) ∘ tx) = id := by funext x; rfl
  rw [this, List.map_id]
theorem print_l1 (asked : List Mat) (hm : ∀ x ∈ asked, matB x = true) (hn : asked.length ≤ 100) (d : Nat) : ∀ (k i : Nat) (ws : List (List UInt8)), i + d = asked.length → d < k → ws.length + d ≤ 1000 → (joinW 32 (ws ++ (asked.drop i).map askW)).length ≤ 1000000 →
    wire_Print.l1 k (ws.map tx) (asked.map ofMat) (asked.length : Int) (i : Int) = some (tx (joinW 32 (ws ++ (asked.drop i).map askW)), 0) := by
  induction d with
  | zero =>
    intro k i ws hi hk hw hj
    obtain ⟨k, rfl⟩ : ∃ q, k = q + 1 := ⟨k - 1, by omega⟩
    rw [drop_end (by omega), List.map_nil, List.append_nil] at hj ⊢
    rw [wire_Print.l1, if_neg (by omega)]
    unfold strings_Join.f
    rw [if_pos ⟨rfl, by simp; omega, by rw [show (⟨#[32]⟩ : ByteArray).data.toList.headD 0 = 32 from rfl, joinT_tx, tx_size]; exact hj⟩, Option.bind_some, show (⟨#[32]⟩ : ByteArray).data.toList.headD 0 = 32 from rfl, joinT_tx]
  | succ d ih =>
    intro k i ws hi hk hw hj
    obtain ⟨k, rfl⟩ : ∃ q, k = q + 1 := ⟨k - 1, by omega⟩
    have hlt : i < asked.length := by omega
    have hb := hm _ (List.getElem_mem hlt)
    have hz := matB_parts hb
    have hs1 := (nameB_all hz.2.2.1).2.2
    have hs2 := (valB_all hz.2.2.2).2
    rw [drop_cons hlt, List.map_cons, List.append_cons] at hj ⊢
    rw [wire_Print.l1, if_pos (by omega), if_pos (by omega), if_pos (by simp; omega), rdMm hlt]
    have e := wask_f (m := asked[i]) (by omega)
    rw [if_pos hb] at e
    show ((wire_Ask.f asked[i].kind asked[i].name asked[i].value).bind _) = _
    rw [e, Option.bind_some, if_pos (by simp; omega), w64s (by omega)]
    have e2 : ws.map tx ++ [tx (askW asked[i])] = (ws ++ [askW asked[i]]).map tx := by simp
    show wire_Print.l1 k (ws.map tx ++ [tx (askW asked[i])]) _ _ _ = _
    rw [e2]
    exact ih k (i + 1) (ws ++ [askW asked[i]]) (by omega) (by omega) (by simp; omega) hj
theorem print_l0 (labs : List Lab) (asked : List Mat) (hl : ∀ x ∈ labs, labB x = true) (hm : ∀ x ∈ asked, matB x = true) (hn0 : labs.length ≤ 100) (hn : asked.length ≤ 100) (kd : Int) (fr tt : Int) (d : Nat) : ∀ (k i : Nat) (ws : List (List UInt8)), i + d = labs.length → d + 102 < k → ws.length + d + 100 ≤ 1000 → (joinW 32 (ws ++ (labs.drop i).map labW ++ asked.map askW)).length ≤ 1000000 →
    wire_Print.l0 k (ws.map tx) (labs.map ofLab) (labs.length : Int) (i : Int) kd (labs.map ofLab) fr tt (asked.map ofMat) = some (tx (joinW 32 (ws ++ (labs.drop i).map labW ++ asked.map askW)), 0) := by
  induction d with
  | zero =>
    intro k i ws hi hk hw hj
    obtain ⟨k, rfl⟩ : ∃ q, k = q + 1 := ⟨k - 1, by omega⟩
    rw [drop_end (by omega), List.map_nil, List.append_nil] at hj ⊢
    rw [wire_Print.l0, if_neg (by omega), List.length_map]
    have := print_l1 asked hm hn asked.length k 0 ws (by omega) (by omega) (by omega) (by rw [List.drop_zero]; exact hj)
    rw [List.drop_zero] at this
    exact this
  | succ d ih =>
    intro k i ws hi hk hw hj
    obtain ⟨k, rfl⟩ : ∃ q, k = q + 1 := ⟨k - 1, by omega⟩
    have hlt : i < labs.length := by omega
    have hb := hl _ (List.getElem_mem hlt)
    have hs := labB_sz hb
    rw [drop_cons hlt, List.map_cons, List.append_cons] at hj ⊢
    rw [wire_Print.l0, if_pos (by omega), if_pos (by omega), if_pos (by simp; omega), rdLm hlt]
    show (if labs[i].name.size + 1 ≤ 9223372036854775807 then (if (labs[i].name ++ (⟨#[61]⟩ : ByteArray)).size + labs[i].value.size ≤ 9223372036854775807 then _ else _) else _) = _
    rw [if_pos (by omega), if_pos (by rw [ByteArray.size_append]; show labs[i].name.size + 1 + _ ≤ _; omega), if_pos (by simp; omega), w64s (by omega)]
    show wire_Print.l0 k (ws.map tx ++ [(labs[i].name ++ (⟨#[61]⟩ : ByteArray)) ++ labs[i].value]) _ _ _ _ _ _ _ _ = _
    rw [lab_tx]
    have e2 : ws.map tx ++ [tx (labW labs[i])] = (ws ++ [labW labs[i]]).map tx := by simp
    rw [e2]
    exact ih k (i + 1) (ws ++ [labW labs[i]]) (by omega) (by omega) (by simp; omega) hj
theorem words_two {m : Msg} (h : m.okB = true) : (m.kind = 2 ∧ m.labs = [] ∧ m.words = [hushT, Lib.decDigits m.fr.toNat, Lib.decDigits m.til.toNat] ++ m.labs.map labW ++ m.asked.map askW) ∨ (m.kind = 1 ∧ m.asked = [] ∧ m.words = [doneT] ++ m.labs.map labW ++ m.asked.map askW) ∨ (m.kind = 0 ∧ m.asked = [] ∧ m.words = [fireT] ++ m.labs.map labW ++ m.asked.map askW) := by
  obtain ⟨kind, labs, fr, tt, asked⟩ := m
  unfold Msg.okB at h
  unfold Msg.words
  simp only at h ⊢
  split at h
  · rename_i hk
    simp only [Bool.and_eq_true, decide_eq_true_eq] at h
    refine .inl ⟨hk, h.1, ?_⟩
    rw [if_pos hk, h.1]
    rfl
  · rename_i hk
    simp only [Bool.and_eq_true, Bool.or_eq_true, decide_eq_true_eq] at h
    obtain ⟨⟨h1, _⟩, _, rfl⟩ := h
    rw [if_neg hk]
    rcases h1 with rfl | rfl
    · exact .inr (.inr ⟨rfl, rfl, by simp⟩)
    · exact .inr (.inl ⟨rfl, rfl, by simp⟩)
theorem okB_parts {m : Msg} (h : m.okB = true) : (∀ x ∈ m.labs, labB x = true) ∧ (∀ x ∈ m.asked, matB x = true) ∧ m.labs.length ≤ 3 ∧ m.asked.length ≤ 4 := by
  unfold Msg.okB at h
  split at h
  · simp only [Bool.and_eq_true, decide_eq_true_eq] at h
    obtain ⟨_, _, _, _, h4, hm⟩ := hushB_parts h.2
    rw [h.1]
    exact ⟨by simp, hm, by simp, h4⟩
  · simp only [Bool.and_eq_true, decide_eq_true_eq] at h
    obtain ⟨_, h3, hl⟩ := eachB_all (labsB_each h.1.2)
    rw [h.2.2]
    exact ⟨hl, by simp, h3, by simp⟩
theorem wprint_f {m : Msg} (h : msgSz m) {k : Nat} (hk : 210 < k) : wire_Print.f k m.kind (m.labs.map ofLab) m.fr m.til (m.asked.map ofMat) = some (if m.okB = true then (tx m.text, 0) else (⟨#[]⟩, 1)) := by
  obtain ⟨k, rfl⟩ : ∃ q, k = q + 1 := ⟨k - 1, by omega⟩
  unfold wire_Print.f
  rw [right_f h, Option.bind_some]
  by_cases ho : m.okB = true
  · rw [if_pos ho, if_pos ho]
    obtain ⟨h1, h2, h3, h4⟩ := okB_parts ho
    have hlen := text_len ho
    have key : ∀ hd : List (List UInt8), hd.length ≤ 3 → m.words = hd ++ m.labs.map labW ++ m.asked.map askW → wire_Print.j0 (k + 1) (hd.map tx) m.kind (m.labs.map ofLab) m.fr m.til (m.asked.map ofMat) = some (tx m.text, 0) := by
      intro hd hh hw
      have e : m.text = joinW 32 (hd ++ m.labs.map labW ++ m.asked.map askW) := by unfold Msg.text; rw [hw]
      rw [wire_Print.j0, List.length_map]
      have := print_l0 m.labs m.asked h1 h2 (by omega) (by omega) m.kind m.fr m.til m.labs.length k 0 hd (by omega) (by omega) (by omega) (by rw [List.drop_zero, ← e]; omega)
      rw [List.drop_zero, ← e] at this
      exact this
    rcases words_two ho with ⟨hk2, _, hw⟩ | ⟨hk1, _, hw⟩ | ⟨hk0, _, hw⟩
    · have hh : hushB m.fr m.til m.asked = true := by
        unfold Msg.okB at ho
        rw [if_pos hk2, Bool.and_eq_true] at ho
        exact ho.2
      obtain ⟨g0, g1, g2, _⟩ := hushB_parts hh
      have hI : ∀ n : Int, 0 ≤ n → n ≤ 1099511627776 → strconv_Itoa.f n = some (tx (Lib.decDigits n.toNat)) := by
        intro n a b
        unfold strconv_Itoa.f
        rw [if_pos ⟨by omega, by omega⟩, itoa_nat a]
      rw [if_neg (by omega), if_pos hk2, hI _ g0 (by omega), Option.bind_some, hI _ (by omega) g2, Option.bind_some]
      exact key _ (by simp) hw
    · rw [if_pos hk1]
      exact key _ (by simp) hw
    · rw [if_neg (by omega), if_neg (by omega)]
      exact key _ (by simp) hw
  · rw [if_neg ho, if_neg ho]
theorem joinW_flat (c : UInt8) (a : List UInt8) : ∀ xs : List (List UInt8), joinW c (a :: xs) = a ++ xs.flatMap (c :: ·)
  | [] => by simp [joinW]
  | x :: xs => by
    rw [joinW, joinW_flat c x xs]
    simp
theorem askedSame_l (xs : List S32) (hn : xs.length ≤ 100000) (d : Nat) : ∀ (k i : Nat), i + d = xs.length → d < k → foghornref10_Asked.l0 k xs xs (xs.length : Int) (i : Int) = some true := by
  induction d with
  | zero =>
    intro k i hi hk
    obtain ⟨k, rfl⟩ : ∃ q, k = q + 1 := ⟨k - 1, by omega⟩
    rw [foghornref10_Asked.l0, if_neg (by omega)]
  | succ d ih =>
    intro k i hi hk
    obtain ⟨k, rfl⟩ : ∃ q, k = q + 1 := ⟨k - 1, by omega⟩
    rw [foghornref10_Asked.l0, if_pos (by omega), if_pos (by omega), if_pos (by omega), if_pos (by omega), if_neg (by simp), w64s (by omega)]
    exact ih k (i + 1) (by omega) (by omega)
theorem same_self (a : Int) (l : List S52) (b c : Int) (xs : List S32) (hn : xs.length ≤ 100000) {k : Nat} (hk : xs.length < k) : foghornref12_Same.f k a l b c xs a l b c xs = some true := by
  unfold foghornref12_Same.f foghornref12_Hushes.f foghornref10_Asked.f foghornref10_Same.f
  rw [if_pos rfl, Option.bind_some, if_pos (by simp), if_pos rfl, if_pos rfl, if_pos rfl, n0, askedSame_l xs hn xs.length k 0 (by omega) hk]
  rfl
def cutLS (x : S52) : S52 := ⟨cutB 12 x.f0, cutB 12 x.f1⟩
def cutMS (x : S32) : S32 := ⟨x.f0, cutB 12 x.f1, cutB 12 x.f2⟩
theorem one_f (a : Int) (b c : ByteArray) : foghornlaw12_one.f a b c = some (a, cutB 12 b, cutB 12 c) := by
  have e1 := mn_eq (b.size : Int) 12
  have e2 := mn_eq (c.size : Int) 12
  unfold foghornlaw12_one.f
  rw [if_pos (by omega), if_pos (by omega), if_pos (by omega), if_pos (by omega), cutB_mn 12 12 _ rfl, cutB_mn 12 12 _ rfl]
theorem few12_l1 (labs : List S52) (xs : List S32) (hx : xs.length ≤ 6) (a : Int) (l : List S52) (b c : Int) (m : List S32) (d : Nat) : ∀ (k i : Nat) (acc : List S32), i + d = xs.length → d < k → acc.length ≤ i →
    foghornlaw12_few.l1 k labs acc xs (xs.length : Int) (i : Int) a l b c m = some (a, labs, b, c, acc ++ (xs.drop i).map cutMS) := by
  induction d with
  | zero =>
    intro k i acc h hk ha
    obtain ⟨k, rfl⟩ : ∃ m, k = m + 1 := ⟨k - 1, by omega⟩
    rw [foghornlaw12_few.l1, if_neg (by omega), drop_end (by omega)]
    simp
  | succ d ih =>
    intro k i acc h hk ha
    obtain ⟨k, rfl⟩ : ∃ m, k = m + 1 := ⟨k - 1, by omega⟩
    have hi : i < xs.length := by omega
    rw [foghornlaw12_few.l1, if_pos (by omega), if_pos (by omega), if_pos (by omega), rdM hi, one_f, Option.bind_some, if_pos (by omega), w64s (by omega), ih k (i + 1) _ (by omega) (by omega) (by simp; omega), drop_cons hi]
    simp only [cutMS, List.map_cons, List.append_assoc, List.singleton_append]
theorem few12_l0 (xs : List S52) (hx : xs.length ≤ 6) (a : Int) (l : List S52) (b c : Int) (m : List S32) (d : Nat) : ∀ (k i : Nat) (acc : List S52), i + d = xs.length → d + 8 < k → acc.length ≤ i →
    foghornlaw12_few.l0 k acc xs (xs.length : Int) (i : Int) a l b c m = some (a, acc ++ (xs.drop i).map cutLS, b, c, (m.take 6).map cutMS) := by
  induction d with
  | zero =>
    intro k i acc h hk ha
    obtain ⟨k, rfl⟩ : ∃ m, k = m + 1 := ⟨k - 1, by omega⟩
    have e1 := mn_eq (m.length : Int) 6
    have hl : (m.take 6).length ≤ 6 := List.length_take_le _ _
    rw [foghornlaw12_few.l0, if_neg (by omega), if_pos (by omega), if_pos (by omega), Option.bind_some, take_mn 6 6 _ rfl, n0, few12_l1 acc (m.take 6) hl a l b c m (m.take 6).length k 0 [] (by omega) (by omega) (by simp), List.drop_zero, drop_end (by omega)]
    simp
  | succ d ih =>
    intro k i acc h hk ha
    obtain ⟨k, rfl⟩ : ∃ m, k = m + 1 := ⟨k - 1, by omega⟩
    have hi : i < xs.length := by omega
    have e1 := mn_eq ((xs[i].f0).size : Int) 12
    have e2 := mn_eq ((xs[i].f1).size : Int) 12
    rw [foghornlaw12_few.l0, if_pos (by omega), if_pos (by omega), if_pos (by omega), rdL hi, if_pos (by omega), if_pos (by omega), if_pos (by omega), if_pos (by omega), if_pos (by omega), w64s (by omega), cutB_mn 12 12 _ rfl, cutB_mn 12 12 _ rfl, ih k (i + 1) _ (by omega) (by omega) (by simp; omega), drop_cons hi]
    simp only [cutLS, List.map_cons, List.append_assoc, List.singleton_append]
theorem few12_f (a : Int) (l : List S52) (b c : Int) (m : List S32) {k : Nat} (hk : 20 < k) : ∃ M : Msg, msgSz M ∧ foghornlaw12_few.f k a l b c m = some (M.kind, M.labs.map ofLab, M.fr, M.til, M.asked.map ofMat) := by
  refine ⟨⟨a, ((l.take 5).map cutLS).map toLab, b, c, ((m.take 6).map cutMS).map toMat⟩, ⟨?_, ?_, ?_, ?_⟩, ?_⟩
  · intro x hx
    simp only [List.mem_map] at hx
    obtain ⟨_, ⟨y, _, rfl⟩, rfl⟩ := hx
    have h1 := cutB_size 12 y.f0
    have h2 := cutB_size 12 y.f1
    show (cutB 12 y.f0).size ≤ 1000 ∧ (cutB 12 y.f1).size ≤ 1000
    omega
  · intro x hx
    simp only [List.mem_map] at hx
    obtain ⟨_, ⟨y, _, rfl⟩, rfl⟩ := hx
    have h1 := cutB_size 12 y.f1
    have h2 := cutB_size 12 y.f2
    show (cutB 12 y.f1).size ≤ 1000 ∧ (cutB 12 y.f2).size ≤ 1000
    omega
  · have : (l.take 5).length ≤ 5 := List.length_take_le _ _
    simp only [List.length_map]
    omega
  · have : (m.take 6).length ≤ 6 := List.length_take_le _ _
    simp only [List.length_map]
    omega
  · have e1 := mn_eq (l.length : Int) 5
    have hl : (l.take 5).length ≤ 5 := List.length_take_le _ _
    have i1 : ∀ xs : List S52, (xs.map toLab).map ofLab = xs := fun xs => by rw [List.map_map, show (ofLab ∘ toLab) = id by funext x; rfl, List.map_id]
    have i2 : ∀ xs : List S32, (xs.map toMat).map ofMat = xs := fun xs => by rw [List.map_map, show (ofMat ∘ toMat) = id by funext x; rfl, List.map_id]
    unfold foghornlaw12_few.f
    rw [if_pos (by omega), if_pos (by omega), Option.bind_some, take_mn 5 5 _ rfl, n0, few12_l0 (l.take 5) (by omega) a l b c m (l.take 5).length k 0 [] (by omega) (by omega) (by simp)]
    simp only [i1, i2, List.drop_zero, List.nil_append]
end Go.Proofs.YtjfknmlchdifjaaGreatDoorQ.P
namespace Go.Proofs.YtjfknmlchdifjaaGreatDoorQ.P
open Go.RowKit Go.Proofs.YtjfknmlchdifjaaGreatDoorW.PrintWords Go.Proofs.YtjfknmlchdifjaaGreatDoorW.PrintLast Go.Proofs.YtjfknmlchdifjaaGreatDoorW.PrintMore Go.Proofs.YtjfknmlchdifjaaGreatDoor
theorem ok_sz {m : Msg} (h : m.okB = true) : msgSz m := by
  obtain ⟨h1, h2, h3, h4⟩ := okB_parts h
  refine ⟨fun x hx => ?_, fun x hx => ?_, by omega, by omega⟩
  · have := labB_sz (h1 x hx)
    omega
  · obtain ⟨_, _, a, b⟩ := matB_parts (h2 x hx)
    have := (nameB_all a).2.2
    have := (valB_all b).2
    omega
theorem same_msg {m : Msg} (h : msgSz m) {k : Nat} (hk : 200 < k) : foghornref12_Same.f k m.kind (m.labs.map ofLab) m.fr m.til (m.asked.map ofMat) m.kind (m.labs.map ofLab) m.fr m.til (m.asked.map ofMat) = some true :=
  same_self _ _ _ _ _ (by have := h.2.2.2; rw [List.length_map]; omega) (by have := h.2.2.2; rw [List.length_map]; omega)
theorem perm_idx : ∀ n, n ≤ 3 → ∀ t, t ≤ 2 → ((List.range n).map fun j => n - 1 - (j + t) % n).Perm (List.range n) := by decide
theorem list_range {α : Type} (z : α) (l : List α) : (List.range l.length).map (fun i => l.getD i z) = l := by
  apply List.ext_getElem
  · simp
  · intro i h1 h2
    simp [List.getD_eq_getElem?_getD, h2]
theorem turn_of (x : Int) : ∃ t : Nat, t ≤ 2 ∧ Int.tmod (wrap64 (Int.tmod x 3 + 3)) 3 = t := by
  have hb : -2 ≤ Int.tmod x 3 ∧ Int.tmod x 3 ≤ 2 := by
    rcases Int.le_total 0 x with h | h
    · rw [Int.tmod_eq_emod_of_nonneg h]; omega
    · rw [show x = -(-x) by omega, Int.neg_tmod, Int.tmod_eq_emod_of_nonneg (by omega)]; omega
  rw [w64 (by omega) (by omega), Int.tmod_eq_emod_of_nonneg (by omega)]
  exact ⟨((Int.tmod x 3 + 3) % 3).toNat, by omega, by omega⟩
theorem order_l (M : Msg) (hk : M.okB = true) (x : Int) (t : Nat) (ht : t ≤ 2) (hx : Int.tmod (wrap64 (Int.tmod x 3 + 3)) 3 = t) (T : List UInt8) (hT : parseP T = (M, 0)) (hTl : T.length ≤ 1000) (z : Lab) (d : Nat) : ∀ (k j : Nat) (acc : List UInt8), j + d = M.labs.length → d + 400 < k →
    acc ++ ((List.range M.labs.length).drop j).flatMap (fun i => 32 :: labW (M.labs.getD (M.labs.length - 1 - (i + t) % M.labs.length) z)) = T →
    foghornlaw12_WireOrder.l0 k x (tx M.text) (tx acc) (M.labs.length : Int) (M.labs.length : Int) (j : Int) M.kind (M.labs.map ofLab) M.fr M.til (M.asked.map ofMat) = some true := by
  have hz := ok_sz hk
  have hl := text_len hk
  obtain ⟨hlab, _, h3, _⟩ := okB_parts hk
  induction d with
  | zero =>
    intro k j acc hj hkk ha
    obtain ⟨k, rfl⟩ : ∃ q, k = q + 1 := ⟨k - 1, by omega⟩
    rw [List.drop_eq_nil_of_le (by rw [List.length_range]; omega), List.flatMap_nil, List.append_nil] at ha
    subst ha
    rw [foghornlaw12_WireOrder.l0, if_neg (by omega), parse_f (by rw [tx_size]; omega) (by omega), parse_f (by rw [tx_size]; omega) (by omega), tx_data, tx_data, hT, parse_text hk, Option.bind_some, Option.bind_some, alive12_f (by omega), Option.bind_some, if_pos rfl]
    show (if (0 : Int) = 0 then (if (0 : Int) = 0 then ((foghornref12_Same.f k M.kind (M.labs.map ofLab) M.fr M.til (M.asked.map ofMat) M.kind (M.labs.map ofLab) M.fr M.til (M.asked.map ofMat)).bind _) else _) else _) = _
    rw [if_pos rfl, if_pos rfl, same_msg hz (by omega), Option.bind_some, if_pos rfl]
    show (foghornref12_Same.f k M.kind (M.labs.map ofLab) M.fr M.til (M.asked.map ofMat) M.kind (M.labs.map ofLab) M.fr M.til (M.asked.map ofMat)).bind _ = _
    rw [same_msg hz (by omega)]
    rfl
  | succ d ih =>
    intro k j acc hj hkk ha
    obtain ⟨k, rfl⟩ : ∃ q, k = q + 1 := ⟨k - 1, by omega⟩
    have hn : 0 < M.labs.length := by omega
    have hmod : (j + t) % M.labs.length < M.labs.length := Nat.mod_lt _ hn
    have e : wrap64 (wrap64 ((M.labs.length : Int) - 1) - Int.tmod (wrap64 ((j : Int) + (t : Int))) (M.labs.length : Int)) = ((M.labs.length - 1 - (j + t) % M.labs.length : Nat) : Int) := by
      rw [w64 (x := (M.labs.length : Int) - 1) (by omega) (by omega), w64 (x := (j : Int) + (t : Int)) (by omega) (by omega), Int.tmod_eq_emod_of_nonneg (by omega)]
      have : ((j : Int) + (t : Int)) % (M.labs.length : Int) = (((j + t) % M.labs.length : Nat) : Int) := by push_cast; rfl
      rw [this, w64 (by omega) (by omega)]
      omega
    have hlt : M.labs.length - 1 - (j + t) % M.labs.length < M.labs.length := by omega
    rw [foghornlaw12_WireOrder.l0, hx, e, if_pos (by omega), if_neg (by omega), if_pos (by omega), if_pos (by rw [List.length_map]; omega), rdLm hlt]
    have hdrop : (List.range M.labs.length).drop j = j :: (List.range M.labs.length).drop (j + 1) := by
      rw [drop_cons (by rw [List.length_range]; omega), List.getElem_range]
    rw [hdrop, List.flatMap_cons] at ha
    have hg : M.labs.getD (M.labs.length - 1 - (j + t) % M.labs.length) z = M.labs[M.labs.length - 1 - (j + t) % M.labs.length] := by
      rw [List.getD_eq_getElem?_getD, List.getElem?_eq_getElem hlt]
      rfl
    rw [hg] at ha
    have hy := hlab _ (List.getElem_mem hlt)
    generalize M.labs[M.labs.length - 1 - (j + t) % M.labs.length] = y at ha hy ⊢
    have hs := labB_sz hy
    have hacc : acc.length ≤ 1000 := by
      have := congrArg List.length ha
      rw [List.length_append] at this
      omega
    have e1 : (ofLab y).f0 = tx y.name.data.toList := (tx_of _).symm
    have e2 : (ofLab y).f1 = tx y.value.data.toList := (tx_of _).symm
    have n1 := len_data y.name
    have n2 := len_data y.value
    rw [e1, e2, show (⟨#[32]⟩ : ByteArray) = tx [32] from rfl, show (⟨#[61]⟩ : ByteArray) = tx [61] from rfl]
    simp only [tx_app]
    rw [if_pos (by rw [tx_size]; omega), if_pos (by rw [tx_size]; simp; omega), if_pos (by rw [tx_size, tx_size]; simp; omega), if_pos (by rw [tx_size, tx_size]; simp; omega), w64s (by omega)]
    refine ih k (j + 1) _ (by omega) (by omega) ?_
    rw [← ha]
    simp [labW]
theorem wireOrder_pure (a : Int) (l : List S52) (b c : Int) (x : List S32) (t : Int) : foghornlaw12_WireOrder.f 8002 a l b c x t = some true := by
  obtain ⟨M, hs, hf⟩ := few12_f a l b c x (k := 8002) (by omega)
  unfold foghornlaw12_WireOrder.f
  rw [hf, Option.bind_some]
  simp only
  rw [wprint_f hs (by omega), Option.bind_some]
  by_cases hk : M.okB = true
  · rw [if_pos hk, if_pos rfl, foghornlaw12_WireOrder.j0]
    by_cases h2 : M.kind = 2
    · rw [if_pos (by rw [h2]; rfl), alive12_f (by omega)]
      rfl
    · rw [if_neg (by simpa using h2)]
      obtain ⟨_, _, h3, _⟩ := okB_parts hk
      obtain ⟨u, hu, hx⟩ := turn_of t
      have z : Lab := ⟨⟨#[]⟩, ⟨#[]⟩⟩
      have hp : ((List.range M.labs.length).map fun i => M.labs.getD (M.labs.length - 1 - (i + u) % M.labs.length) z).Perm M.labs := by
        have h := (perm_idx M.labs.length h3 u hu).map (fun i => M.labs.getD i z)
        rw [list_range, List.map_map] at h
        exact h
      have hT := parse_perm hk h2 hp
      rw [joinW_flat] at hT
      have key : ∀ hd : List UInt8, hd = (if M.kind = 1 then doneT else fireT) → foghornlaw12_WireOrder.j1 8001 t (tx M.text) (tx hd) M.kind (M.labs.map ofLab) M.fr M.til (M.asked.map ofMat) = some true := by
        intro hd hh
        rw [foghornlaw12_WireOrder.j1, List.length_map]
        rw [← hh] at hT
        have e : ((((List.range M.labs.length).map fun i => M.labs.getD (M.labs.length - 1 - (i + u) % M.labs.length) z).map labW).flatMap ((32 : UInt8) :: ·)) = (List.range M.labs.length).flatMap (fun i => 32 :: labW (M.labs.getD (M.labs.length - 1 - (i + u) % M.labs.length) z)) := by
          rw [List.map_map, List.flatMap_map]
          rfl
        rw [e] at hT
        have hlen : (hd ++ (List.range M.labs.length).flatMap (fun i => 32 :: labW (M.labs.getD (M.labs.length - 1 - (i + u) % M.labs.length) z))).length ≤ 1000 := by
          unfold parseP at hT
          split at hT
          · have := congrArg (fun p : Msg × Int => p.2) hT
            simp at this
          · omega
        have := order_l M hk t u hu hx _ hT hlen z M.labs.length 8000 0 hd (by omega) (by omega) (by rw [List.drop_zero])
        exact this
      by_cases h1 : M.kind = 1
      · rw [if_pos h1]
        exact key doneT (by rw [if_pos h1])
      · rw [if_neg h1]
        exact key fireT (by rw [if_neg h1])
  · rw [if_neg hk, if_neg (by decide), foghornlaw12_WireOrder.j0, if_pos rfl, alive12_f (by omega)]
    rfl
def MsgK (v : Value) (w : World) (a : Int) (l : List S52) (b c : Int) (x : List S32) : Prop :=
  ∃ (A1 : Option Addr) (c1 : Nat) (A4 : Option Addr) (c4 : Nat), v = .agg #[.int .i64 a, .slice A1 l.length c1, .int .i64 b, .int .i64 c, .slice A4 x.length c4] ∧ l.length ≤ c1 ∧ Kd.C k52 w A1 l.length l ∧ x.length ≤ c4 ∧ Kd.C k32 w A4 x.length x
structure MsgA where
  a : Int
  l : List S52
  b : Int
  c : Int
  x : List S32
def MsgV (v : Value) (w : World) (m : MsgA) : Prop := MsgK v w m.a m.l m.b m.c m.x
theorem WireOrder_walk (v0 : Value) (m : MsgA) (a1 : Int) (w : World) (hG : GOK w) (h0 : MsgV v0 w m) (h1 : (Lit.int .i64 a1).wf = true) :
    Calls Tryz.prog 6 #[v0, .int .i64 a1] w fun e w' => e = .returned (.bool true) ∧ Below w.heap.size w w' := by
  obtain ⟨A1, c1, A4, c4, rfl, h1', k1, h4, k4⟩ := h0
  exact foghornlaw12_WireOrder.calls 8002 m.a A1 c1 m.l m.b m.c A4 c4 m.x a1 true w hG k1 h1' k4 h4 (wireOrder_pure ..)
end Go.Proofs.YtjfknmlchdifjaaGreatDoorQ.P
namespace Go.Proofs.YtjfknmlchdifjaaGreatDoor
open Go.RowKit Go.ChangeShapes Go.WideShapes Go.ChangeAt Go.Proofs.YtjfknmlchdifjaaGreatDoorW.PrintWords
def Opens (P : Program) (W : World) (t : TypeId) {α : Type} (d : Kd α) (Q : α → Prop) : Prop :=
  ∀ {H : Type} (enc : TypeId × Value → H) (base : Nat) (spare : Nat → Bool) (held : Bool) (fuel : Nat) (cs : List Value) (y : DataW H × List MemPlace), DataW.trod enc P W base spare held fuel t cs = some y → cs.length = d.sz → ∃ x, d.K W x cs ∧ Q x
def OpensL (P : Program) (W : World) (fs : List Field) (o : Nat) {α : Type} (d : Kd α) (Q : α → Prop) : Prop :=
  ∀ {H : Type} (enc : TypeId × Value → H) (base : Nat) (spare : Nat → Bool) (held : Bool) (cs : List Value), (∀ (j : Nat) (f : Field), fs[j]? = some f → ∃ fuel y, DataW.trod enc P W base spare held fuel f.type ((cs.drop (f.offset - o)).take (P.cellsOf f.type)) = some y) → cs.length = d.sz → ∃ x, d.K W x cs ∧ Q x
section
variable {P : Program} {W : World} {t e : TypeId} {α β : Type} {d : Kd α} {Q : α → Prop}
theorem opens_int {k : IntKind} (ht : P.underlying t = some (.int k)) : Opens P W t (Kd.int k) (fun n => (Lit.int k n).wf = true) := by
  intro H enc base spare held fuel cs y h _
  obtain ⟨n, rfl, _, hw⟩ := DataW.trod_int ht h
  exact ⟨n, rfl, hw⟩
theorem opens_string (ht : P.underlying t = some .string) : Opens P W t Kd.string (fun s => s.size ≤ maxLen) := by
  intro H enc base spare held fuel cs y h _
  obtain ⟨n, rfl, _, hw⟩ := DataW.trod_string ht h
  exact ⟨n, rfl, hw⟩
theorem opens_C (hc : P.cellsOf e = d.sz) (h0 : 0 < d.sz) (h : Opens P W e d Q) {H : Type} {enc : TypeId × Value → H} {base : Nat} {spare : Nat → Bool} {held : Bool} {p : List MemPlace} {dd : DataW H} (ht : P.underlying t = some (.slice e)) {v : Value} (ht2 : DataW.Trod enc P W base spare held t v dd p) (hv : ∃ a l c, v = .slice a l c) :
    ∃ (xs : List α) (A : Option Addr) (c : Nat), v = .slice A xs.length c ∧ xs.length ≤ c ∧ d.C W A xs.length xs ∧ ∀ x ∈ xs, Q x := by
  obtain ⟨n, cells, hS, hel⟩ := sl_of_trod ht hc h0 ht2 hv
  have hx : ∀ i, i < n → ∃ x, d.K W x ((cells.drop (i * d.sz)).take d.sz) ∧ Q x := by
    intro i hi
    obtain ⟨f, y, hy⟩ := hel i hi
    refine h enc base spare held f _ y hy ?_
    have hle : i * d.sz + d.sz ≤ n * d.sz := by rw [← Nat.succ_mul]; exact Nat.mul_le_mul_right _ hi
    rw [List.length_take, List.length_drop, hS.1]
    omega
  have hxs : ∀ m, m ≤ n → ∃ xs : List α, xs.length = m ∧ ∀ i x, xs[i]? = some x → d.K W x ((cells.drop (i * d.sz)).take d.sz) ∧ Q x := by
    intro m
    induction m with
    | zero => exact fun _ => ⟨[], rfl, fun i x hx => by simp at hx⟩
    | succ m ih =>
      intro hm
      obtain ⟨xs, hl, hq⟩ := ih (by omega)
      obtain ⟨x, hk, hqx⟩ := hx m (by omega)
      refine ⟨xs ++ [x], by simp [hl], fun i y hy => ?_⟩
      rcases Nat.lt_or_ge i xs.length with hi | hi
      · rw [List.getElem?_append_left hi] at hy
        exact hq i y hy
      · rw [List.getElem?_append_right hi] at hy
        obtain ⟨h1, h2⟩ := List.getElem?_eq_some_iff.1 hy
        have hi2 : i = m := by simp at h1; omega
        subst hi2
        simp at h2
        subst h2
        exact ⟨hk, hqx⟩
  obtain ⟨xs, hl, hq⟩ := hxs n (Nat.le_refl _)
  obtain ⟨a, c, hv2, hnc, hnm⟩ := hS.form
  subst hv2
  subst hl
  refine ⟨xs, a, c, rfl, hnc, ⟨rfl, by unfold maxLen at hnm; omega, fun hp => ?_⟩, fun x hx => ?_⟩
  · obtain ⟨b, o, rfl, _, hcell⟩ := hS.at hp
    refine ⟨_, rfl, fun j p hj => ⟨_, ?_, (hq j p hj).1, fun i u hu => ?_⟩⟩
    · exact d.K_len (hq j p hj).1
    · rw [List.getElem?_take] at hu
      split at hu
      · rw [List.getElem?_drop] at hu
        rw [add_off]
        exact hcell _ _ hu
      · cases hu
  · obtain ⟨i, hi, rfl⟩ := List.mem_iff_getElem.1 hx
    exact (hq i _ (List.getElem?_eq_getElem hi)).2
theorem opens_slice (ht : P.underlying t = some (.slice e)) (hc : P.cellsOf e = d.sz) (h0 : 0 < d.sz) (h : Opens P W e d Q) : Opens P W t (Kd.slice e d) (fun xs => ∀ x ∈ xs, Q x) := by
  intro H enc base spare held fuel cs y hy hl
  obtain ⟨u, rfl⟩ : ∃ u, cs = [u] := by
    match cs, hl with
    | [u], _ => exact ⟨u, rfl⟩
  obtain ⟨hv, h2⟩ := slice_of_trod ht hy
  obtain ⟨xs, A, c, rfl, h3, h4, h5⟩ := opens_C hc h0 h ht h2 hv
  exact ⟨xs, ⟨A, c, rfl, h3, h4⟩, h5⟩
theorem opensL_one {f : Field} (h : Opens P W f.type d Q) (hc : P.cellsOf f.type = d.sz) : OpensL P W [f] f.offset d Q := by
  intro H enc base spare held cs hf hl
  obtain ⟨fuel, y, hy⟩ := hf 0 f rfl
  rw [Nat.sub_self, List.drop_zero, hc, List.take_of_length_le (by omega)] at hy
  exact h enc base spare held fuel cs y hy hl
theorem opensL_cons {f : Field} {fs : List Field} {b : Kd β} {Qb : β → Prop} (h : Opens P W f.type d Q) (hc : P.cellsOf f.type = d.sz) (hs : OpensL P W fs (f.offset + d.sz) b Qb) (ho : (fs.all fun g => decide (f.offset + d.sz ≤ g.offset)) = true) :
    OpensL P W (f :: fs) f.offset (Kd.pair d b) (fun x => Q x.1 ∧ Qb x.2) := by
  intro H enc base spare held cs hf hl
  have hl' : cs.length = d.sz + b.sz := hl
  obtain ⟨fuel, y, hy⟩ := hf 0 f rfl
  rw [Nat.sub_self, List.drop_zero, hc] at hy
  obtain ⟨x, hk, hq⟩ := h enc base spare held fuel _ y hy (by rw [List.length_take]; omega)
  obtain ⟨z, hkz, hqz⟩ := hs enc base spare held (cs.drop d.sz) (fun j g hg => by
    obtain ⟨fuel, y, hy⟩ := hf (j + 1) g (by simpa using hg)
    have hog : f.offset + d.sz ≤ g.offset := by simpa using List.all_eq_true.1 ho g (List.mem_of_getElem? hg)
    refine ⟨fuel, y, ?_⟩
    rw [List.drop_drop, show d.sz + (g.offset - (f.offset + d.sz)) = g.offset - f.offset by omega]
    exact hy) (by rw [List.length_drop]; omega)
  exact ⟨(x, z), ⟨_, _, (List.take_append_drop d.sz cs).symm, hk, hkz⟩, hq, hqz⟩
theorem opens_struct {fs : Array Field} (ht : P.underlying t = some (.struct fs)) (h : OpensL P W fs.toList 0 d Q) : Opens P W t d Q := by
  intro H enc base spare held fuel cs y hy hl
  obtain ⟨xs, n, _, _, _, hlx, hx⟩ := DataW.trod_struct ht hy
  refine h enc base spare held cs (fun j f hf => ?_) hl
  have hf' : fs[j]? = some f := by simpa using hf
  have h1 := hx j f hf'
  have hj : j < xs.length := by rw [hlx]; exact (Array.getElem?_eq_some_iff.1 hf').1
  rw [List.getElem?_eq_getElem hj] at h1
  exact ⟨n, _, h1⟩
theorem opens_iso {f : β → α} {g : α → β} (hfg : ∀ x, f (g x) = x) (h : Opens P W t d Q) : Opens P W t (Kd.iso d f) (fun y => Q (f y)) := by
  intro H enc base spare held fuel cs y hy hl
  obtain ⟨x, hk, hq⟩ := h enc base spare held fuel cs y hy hl
  exact ⟨g x, (by show d.K W (f (g x)) cs; rw [hfg]; exact hk), (by show Q (f (g x)); rw [hfg]; exact hq)⟩
theorem Opens.imp {Q' : α → Prop} (h : Opens P W t d Q) (hq : ∀ x, Q x → Q' x) : Opens P W t d Q' := by
  intro H enc base spare held fuel cs y hy hl
  obtain ⟨x, hk, hx⟩ := h enc base spare held fuel cs y hy hl
  exact ⟨x, hk, hq x hx⟩
theorem arg_struct (h : Opens P W t d Q) {fs : Array Field} (hc : P.cellsOf t = d.sz) {H : Type} {enc : TypeId × Value → H} {r : Reach} {base bb : Nat} {spare : Nat → Bool} {held : Bool} {p : List MemPlace} {dd : DataW H} (ht : P.underlying t = some (.struct fs)) {v : Value} (hv : Value.okWide P W r bb t v) (h2 : DataW.Trod enc P W base spare held t v dd p) :
    ∃ x : α, (∃ cs : List Value, v = .agg cs.toArray ∧ d.K W x cs) ∧ Q x := by
  obtain ⟨cs, rfl, hsz⟩ := okWide_struct ht hv
  obtain ⟨fuel, hf⟩ := h2
  obtain ⟨x, hk, hq⟩ := h enc base spare held fuel cs.toList _ hf (by simpa [hc] using hsz)
  exact ⟨x, ⟨cs.toList, by simp, hk⟩, hq⟩
end
end Go.Proofs.YtjfknmlchdifjaaGreatDoor
namespace Go.Proofs.YtjfknmlchdifjaaGreatDoorQ.P
open Go.RowKit Go.ChangeShapes Go.WideShapes Go.ChangeAt Go.Proofs.YtjfknmlchdifjaaGreatDoorW.PrintWords Go.Proofs.YtjfknmlchdifjaaGreatDoor
theorem opensLab (W : World) : Opens Tryz.prog W 52 k52 (fun x => x.f0.size ≤ maxLen ∧ x.f1.size ≤ maxLen) :=
  opens_iso (g := fun x => ⟨x.1, x.2⟩) (fun _ => rfl) (opens_struct Tryz.underlying52 (opensL_cons (opens_string Tryz.underlying9) (by kernel_rfl) (opensL_one (opens_string Tryz.underlying9) (by kernel_rfl)) (by rfl)))
section
variable {W : World} {H : Type} {enc : TypeId × Value → H} {r : Reach} {base bb : Nat} {spare : Nat → Bool} {held : Bool} {p : List MemPlace} {dd : DataW H} {v : Value}
end
end Go.Proofs.YtjfknmlchdifjaaGreatDoorQ.P
namespace Go.Proofs.YtjfknmlchdifjaaGreatDoorQ.P
open Go.RowKit Go.ChangeShapes Go.WideShapes Go.ChangeAt Go.Proofs.YtjfknmlchdifjaaGreatDoorW.PrintWords Go.Proofs.YtjfknmlchdifjaaGreatDoor
theorem opensMat (W : World) : Opens Tryz.prog W 32 k32 (fun x => (Lit.int .i64 x.f0).wf = true ∧ x.f1.size ≤ maxLen ∧ x.f2.size ≤ maxLen) :=
  opens_iso (g := fun x => ⟨x.1, x.2.1, x.2.2⟩) (fun _ => rfl) (opens_struct Tryz.underlying32 (opensL_cons (opens_int Tryz.underlying3) (by kernel_rfl) (opensL_cons (opens_string Tryz.underlying9) (by kernel_rfl) (opensL_one (opens_string Tryz.underlying9) (by kernel_rfl)) (by rfl)) (by rfl)))
section
variable {W : World} {H : Type} {enc : TypeId × Value → H} {r : Reach} {base bb : Nat} {spare : Nat → Bool} {held : Bool} {p : List MemPlace} {dd : DataW H} {v : Value}
end
end Go.Proofs.YtjfknmlchdifjaaGreatDoorQ.P
namespace Go.Proofs.YtjfknmlchdifjaaGreatDoorQ.P
open Go.RowKit Go.ChangeShapes Go.WideShapes Go.ChangeAt Go.Proofs.YtjfknmlchdifjaaGreatDoorW.PrintWords Go.Proofs.YtjfknmlchdifjaaGreatDoor
section
variable {W : World} {H : Type} {enc : TypeId × Value → H} {r : Reach} {base bb : Nat} {spare : Nat → Bool} {held : Bool} {p : List MemPlace} {dd : DataW H} {v : Value}
def kHush : Kd (Int × Int × List S32) := Kd.pair (Kd.int .i64) (Kd.pair (Kd.int .i64) (Kd.slice 32 k32))
theorem opensLabs (W : World) : Opens Tryz.prog W 22 (Kd.slice 52 k52) (fun xs => ∀ x ∈ xs, x.f0.size ≤ maxLen ∧ x.f1.size ≤ maxLen) := opens_slice Tryz.underlying22 (by kernel_rfl) (by decide) (opensLab W)
theorem opensMats (W : World) : Opens Tryz.prog W 23 (Kd.slice 32 k32) (fun xs => ∀ x ∈ xs, (Lit.int .i64 x.f0).wf = true ∧ x.f1.size ≤ maxLen ∧ x.f2.size ≤ maxLen) := opens_slice Tryz.underlying23 (by kernel_rfl) (by decide) (opensMat W)
theorem anyO {P : Program} {W : World} {t : TypeId} {α : Type} {d : Kd α} {Q : α → Prop} (h : Opens P W t d Q) : Opens P W t d (fun _ => True) := h.imp fun _ _ => trivial
theorem opensI (W : World) : Opens Tryz.prog W 3 (Kd.int .i64) (fun _ => True) := anyO (opens_int Tryz.underlying3)
theorem opensHush (W : World) : Opens Tryz.prog W 25 kHush (fun _ => True) :=
  anyO (opens_struct Tryz.underlying25 (opensL_cons (opensI W) (by kernel_rfl) (opensL_cons (opensI W) (by kernel_rfl) (opensL_one (opensMats W) (by kernel_rfl)) (by rfl)) (by rfl)))
theorem opensMsg (W : World) : Opens Tryz.prog W 27 (Kd.pair (Kd.int .i64) (Kd.pair (Kd.slice 52 k52) kHush)) (fun _ => True) :=
  anyO (opens_struct Tryz.underlying27 (opensL_cons (opensI W) (by kernel_rfl) (opensL_cons (opensLabs W) (by kernel_rfl) (opensL_one (opensHush W) (by kernel_rfl)) (by rfl)) (by rfl)))
set_option maxRecDepth 100000 in
theorem argMsg (hv : Value.okWide Tryz.prog W r bb 27 v) (h2 : DataW.Trod enc Tryz.prog W base spare held 27 v dd p) : ∃ m : MsgA, MsgV v W m := by
  obtain ⟨⟨a0, l1, a8, a9, l10⟩, ⟨cs, rfl, hk⟩, _⟩ := arg_struct (opensMsg W) (by kernel_rfl) Tryz.underlying27 hv h2
  obtain ⟨_, _, rfl, rfl, _, _, rfl, ⟨A1, c1, rfl, h1, k1⟩, _, _, rfl, rfl, _, _, rfl, rfl, A10, c10, rfl, h10, k10⟩ := hk
  exact ⟨⟨a0, l1, a8, a9, l10⟩, A1, c1, A10, c10, rfl, h1, k1, h10, k10⟩
end
end Go.Proofs.YtjfknmlchdifjaaGreatDoorQ.P
namespace Go.Proofs.YtjfknmlchdifjaaGreatDoor
open Go
variable {H : Type} {enc : TypeId × Value → H}
theorem handed_and_shaped {a : Assume} {C : Checked} {os : Os} {f : FuncId} {fn : Func} {s : ChangeSpec} {conds : List PathCond} {apart fresh handsOn again : Bool} {X : World → Array Value → Prop}
    (hX : ∀ (w w' : World) (args : Array Value), w.heap = w'.heap → X w args → X w' args)
    (own : ownKnob C.prog.godebug = none) (started : os.Started) (noInit : C.prog.inits.idxOf? f = none) (hfn : C.prog.funcs[f]? = some fn)
    (witness : ∃ (w : World) (tape : Tape) (i : Input), w.os = os ∧ (w.forCall tape i).Shaped C.prog ∧ i.vars = [] ∧ Input.okWide C.prog (w.forCall tape i) .any w.heap.size f i ∧
      ((s.pre enc C.prog fn conds apart (w.forCall tape i).memory i.args ∧ X (w.forCall tape i).memory i.args) ∧ sizedMet enc C.prog fn (OpenSpec.ofChange s) apart (w.forCall tape i).memory i.args) ∧ a.holds C.prog (lone (Frame.enter C.prog f i.args .normal) [] (w.forCall tape i)))
    (contract : ∀ (W : World) (base : Nat) (args : Array Value) (ds gs : List (DataW H)) (before : List MemPlace),
      (∀ (j : Nat) t v, fn.params[j]? = some t → args[j]? = some v → Value.okWide C.prog W .any base t v) →
      DataW.Whole enc C.prog fn.params.toList s.vars apart W args.toList ds gs before →
      conds.all (PathCond.test C.prog ⟨fn.params.toList, ds, s.plain.varTypes C.prog, gs⟩) = true →
      (DataW.weightsEach C.prog (fn.params.toList ++ s.plain.varTypes C.prog) (ds ++ gs)).all (· ≤ reachBytes) = true → X W args → W.ShapedOpen C.prog →
      a.holds C.prog (lone (Frame.enter C.prog f args .normal) [] W) →
      Calls C.prog f args W fun e W' => ∃ v, e = .returned v ∧ s.post enc C.prog fn apart fresh handsOn again W args v W') :
    ReturnsInHanded a C os f .any (fun w args => (s.pre enc C.prog fn conds apart w args ∧ X w args) ∧ sizedMet enc C.prog fn (OpenSpec.ofChange s) apart w args) (s.post enc C.prog fn apart fresh handsOn again) := by
  refine returnsInHanded_of_calls own started noInit witness ?_
  intro w tape i _ hsh _ hok hpre hholds
  obtain ⟨_, _, _, fn', hfn', _, _, _, _, hval⟩ := hok
  have e : fn' = fn := Option.some.inj (hfn'.symm.trans hfn)
  subst e
  obtain ⟨⟨⟨ds, gs, before, hw, hc⟩, hx⟩, hz⟩ := hpre
  have hw' := DataW.Whole.of_heap (w' := w.forCall tape i) (by rfl) hw
  refine (contract (w.forCall tape i) w.heap.size i.args ds gs before hval hw' hc (hz.weights hw) (hX _ _ _ (by rfl) hx) hsh hholds).mono fun e W' ⟨v, he, hp⟩ => ?_
  subst he
  exact ChangeSpec.post_blind hp
end Go.Proofs.YtjfknmlchdifjaaGreatDoor
namespace Go.Proofs.YtjfknmlchdifjaaGreatDoor.wireOrder
open Go.ChangeShapes Go.WideShapes Go.ChangeAt Go.WideMaps Go.WideElems Go.RowKit Go.Proofs.YtjfknmlchdifjaaGreatDoorQ.P Go.Proofs.YtjfknmlchdifjaaGreatDoorQ
open Go.ChangeMaps (open_string shut_string)
theorem own : ownKnob Tryz.prog.godebug = none := by kernel_rfl
theorem laidOut : laidOutB Tryz.prog = true := by kernel_rfl
def laidL : List (String × DataW Unit) := [("math/bits.deBruijn32tab", Rows.laid_math_bits_deBruijn32tab), ("math/bits.deBruijn64tab", Rows.laid_math_bits_deBruijn64tab), ("internal/strconv.uint64pow10", Rows.laid_internal_strconv_uint64pow10), ("unicode/utf8.acceptRanges", Rows.laid_unicode_utf8_acceptRanges), ("strconv.ErrRange", Rows.laid_strconv_ErrRange), ("strconv.ErrSyntax", Rows.laid_strconv_ErrSyntax), ("unicode/utf8.first", Rows.laid_unicode_utf8_first)]
theorem laid_met (os : Os) (args : Array Value) : laidMetH Tryz.prog laidL ((World.laidAll Tryz.prog os laidL).forCall (fun _ _ => 0) ⟨#[], args, []⟩).memory := by
  rw [MakeChecks.laidMetH_plain _ _ _ (by kernel_rfl)]; exact laidMet_laidAll _ (by kernel_rfl) (by kernel_rfl)
set_option maxRecDepth 100000 in
theorem starErr : "*" ++ "errors.errorString" = "*errors.errorString" := by decide
theorem rowErr (u : TypeId) (h : Tryz.prog.typeName? 3 u = some "*errors.errorString") : u = 228 := typeName_ptr_named (nm := "errors.errorString") (by rw [starErr]; kernel_rfl) (by kernel_rfl) (by decide) u (by rw [starErr]; exact h)
set_option maxRecDepth 100000 in
theorem gok_of {W : World} (h : laidMetH Tryz.prog laidL W) (hs : W.ShapedOpen Tryz.prog) : GOK W := by
  rw [MakeChecks.laidMetH_plain _ _ _ (by kernel_rfl)] at h
  have h00 := h
  obtain ⟨ps, ⟨g0, t0, cs0, f0, p0, q0, hg0, ht0, hv0, hd0, ⟨g1, t1, cs1, f1, p1, q1, hg1, ht1, hv1, hd1, ⟨g2, t2, cs2, f2, p2, q2, hg2, ht2, hv2, hd2, ⟨g3, t3, cs3, f3, p3, q3, hg3, ht3, hv3, hd3, ⟨g4, t4, cs4, f4, p4, q4, hg4, ht4, hv4, hd4, ⟨g5, t5, cs5, f5, p5, q5, hg5, ht5, hv5, hd5, ⟨g6, t6, cs6, f6, p6, q6, hg6, ht6, hv6, hd6, _, _⟩, _⟩, _⟩, _⟩, _⟩, _⟩, _⟩, _, _⟩ := h
  have k1 : Lib.TabIs Tryz.prog W "math/bits.deBruijn64tab" .u8 tab_math_bits_deBruijn64tab := by
    obtain rfl := Option.some.inj ((show Tryz.prog.globalNamed "math/bits.deBruijn64tab" = some 7 by kernel_rfl).symm.trans hg1)
    obtain rfl := Option.some.inj ((show (Tryz.prog.globals[7]?).map (·.type) = some 232 by kernel_rfl).symm.trans ht1)
    unfold Lib.TabIs
    have hd' := Lib.cells_of_tab (zs := tab_math_bits_deBruijn64tab) (k := .u8) Tryz.underlying232 Tryz.underlying5 (by kernel_rfl) (by kernel_rfl) hd1
    rw [hv1, ← hd']
  have k2 : Lib.TabIs Tryz.prog W "internal/strconv.uint64pow10" .u64 tab_internal_strconv_uint64pow10 := by
    obtain rfl := Option.some.inj ((show Tryz.prog.globalNamed "internal/strconv.uint64pow10" = some 1 by kernel_rfl).symm.trans hg2)
    obtain rfl := Option.some.inj ((show (Tryz.prog.globals[1]?).map (·.type) = some 205 by kernel_rfl).symm.trans ht2)
    unfold Lib.TabIs
    have hd' := Lib.cells_of_tab (zs := tab_internal_strconv_uint64pow10) (k := .u64) Tryz.underlying205 Tryz.underlying182 (by kernel_rfl) (by kernel_rfl) hd2
    rw [hv2, ← hd']
  have kmax : ∃ m, W.cell? ⟨0, 0, none⟩ = some (.int .i64 m) := Go.Proofs.cell_of_shapedOpen_int hs (of_decide_eq_true (by kernel_rfl)) (show ((begin Tryz.prog (fun _ _ => 0) default).world.heap[0]?).bind Obj.row? = some (#[.int .i64 0], 3) by kernel_rfl) rfl (by kernel_rfl) (by kernel_rfl) Tryz.underlying3
  have kerrsyntax : ∃ t p, W.cell? ⟨4, 0, none⟩ = some (.iface t p) := by
    obtain ⟨a, s, hv, _⟩ := laid_sentinel (tp := 228) (te := 230) (ts := 9) (laidMet.tail (laidMet.tail (laidMet.tail (laidMet.tail (laidMet.tail (h00)))))) (show Tryz.prog.globalNamed "strconv.ErrSyntax" = some 4 by kernel_rfl) (show (Tryz.prog.globals[4]?).map (·.type) = some 100 by kernel_rfl) Tryz.underlying100 rowErr Tryz.underlying228 Tryz.underlying230 rfl rfl Tryz.underlying9 (by kernel_rfl) (by kernel_rfl)
    have h0 := World.var?_cell (show Tryz.prog.globalNamed "strconv.ErrSyntax" = some 4 by kernel_rfl) hv 0
    exact ⟨_, _, by simpa using h0⟩
  have kerrrange : ∃ t p, W.cell? ⟨5, 0, none⟩ = some (.iface t p) := by
    obtain ⟨a, s, hv, _⟩ := laid_sentinel (tp := 228) (te := 230) (ts := 9) (laidMet.tail (laidMet.tail (laidMet.tail (laidMet.tail (h00))))) (show Tryz.prog.globalNamed "strconv.ErrRange" = some 5 by kernel_rfl) (show (Tryz.prog.globals[5]?).map (·.type) = some 100 by kernel_rfl) Tryz.underlying100 rowErr Tryz.underlying228 Tryz.underlying230 rfl rfl Tryz.underlying9 (by kernel_rfl) (by kernel_rfl)
    have h0 := World.var?_cell (show Tryz.prog.globalNamed "strconv.ErrRange" = some 5 by kernel_rfl) hv 0
    exact ⟨_, _, by simpa using h0⟩
  exact ⟨k1, k2, kmax, kerrsyntax, kerrrange, trivial⟩
set_option maxRecDepth 100000 in
theorem lifted (os : Os) (started : os.Started) (H : Type) (enc : TypeId × Value → H) :
    ReturnsInHanded {} Tryz.checked os 6 .any (fun w args => (Rows.wireOrderSpec.pre enc Tryz.prog Tryz.f6 [] false w args ∧ laidMetH Tryz.prog laidL w) ∧ sizedMet enc Tryz.prog Tryz.f6 (OpenSpec.ofChange Rows.wireOrderSpec) false w args) (Rows.wireOrderSpec.post enc Tryz.prog Tryz.f6 false true false false) := by
  refine handed_and_shaped (C := Tryz.checked) (X := fun w _ => laidMetH Tryz.prog laidL w) (fun _ _ _ hh h => h.of_heap hh) own started (by kernel_rfl) Tryz.func6
    (ChangeSpec.witness_shaped (enc := enc) (C := Tryz.checked) (os := os) (X := fun w _ => laidMetH Tryz.prog laidL w) false (World.laidAll Tryz.prog os laidL) #[.agg #[.int .i64 0, .slice none 0 0, .int .i64 0, .int .i64 0, .slice none 0 0], .int .i64 0] 8 (World.laidAll_os _ _ _) (World.shaped_of_ZipB (by kernel_rfl) (by kernel_rfl)) (by kernel_rfl) (by kernel_rfl) (by kernel_rfl) (laid_met os _)) ?_
  intro W base args ds gs before hval0 hW _ _ hL hSh _
  have hG := gok_of hL hSh
  have hval : ∀ (j : Nat) t v, Tryz.f6.params[j]? = some t → args[j]? = some v → Value.okWide Tryz.prog W .any base t v := hval0
  have hW' := hW
  obtain ⟨p, q, hA0, hV, rfl, hfz, hnd⟩ := hW
  have hA : DataW.TrodAll enc Tryz.prog W 0 (fun _ => true) true Tryz.f6.params.toList args.toList ds p := hA0
  rw [Tryz.params6] at hA hval
  obtain ⟨v0, vs0, d0, ds0, p0, q0, hargs, rfl, rfl, h0, r0⟩ := trodAll_cons hA
  obtain ⟨v1, vs1, d1, ds1, p1, q1, rfl, rfl, rfl, h1, r1⟩ := trodAll_cons r0
  obtain ⟨rfl, rfl, rfl⟩ := trodAll_nil r1
  obtain rfl : args = #[v0, v1] := by cases args; simp_all
  obtain ⟨rfl, rfl⟩ := trodVars_none hV
  have lt0 : ∀ x ∈ p0, x.block < W.heap.size := by obtain ⟨m, hm⟩ := h0; exact DataW.trod_lt m _ _ _ hm
  have k0 := h0
  have lt1 : ∀ x ∈ p1, x.block < W.heap.size := by obtain ⟨m, hm⟩ := h1; exact DataW.trod_lt m _ _ _ hm
  have k1 := h1
  obtain ⟨a0, w0⟩ := argMsg (hval 0 27 v0 rfl rfl) h0
  obtain ⟨a1, rfl, rfl, rfl, w1⟩ := open_int Tryz.underlying3 (hval 1 3 v1 rfl rfl) h1
  clear hA0 hval0
  refine (WireOrder_walk v0 a0 a1 W hG w0 w1).mono fun e W' ⟨he, bel⟩ => ?_
  subst he
  exact ⟨_, rfl, _, _, _, [], _, [], hW', trodAll_mk1 (shut_bool Tryz.underlying4 _), (trodAll_cons_mk (Below.trod laidOut (by kernel_rfl) (of_decide_eq_true (by kernel_rfl)) k0 bel lt0) (trodAll_cons_mk (Below.trod laidOut (by kernel_rfl) (of_decide_eq_true (by kernel_rfl)) k1 bel lt1) trodAll_mk0)), rfl, bel.frame _, fun h => by cases h⟩
theorem over : Rows.WireOrderSaid :=
  OpenClaim.holds_of_wide 6 Tryz.f6 rfl rfl rfl rfl rfl rfl rfl ⟨rfl, rfl, rfl, rfl, rfl⟩ rfl rfl rfl rfl rfl (by kernel_rfl) Tryz.func6 (by kernel_rfl)
    (of_decide_eq_true (by kernel_rfl)) (by unfold Func.isWrapper; first | (rw [if_pos (by decide +kernel)]; kernel_rfl) | (rw [if_neg (by decide +kernel)]; exact ⟨rfl, rfl⟩))
    (fun os started H enc _ => lifted os started H enc)
end Go.Proofs.YtjfknmlchdifjaaGreatDoor.wireOrder
namespace Go.Proofs.YtjfknmlchdifjaaGreatDoor
theorem wireOrder_holds : Rows.WireOrderCardSaid :=
  Claim7.holds_tied_plain_at .later [] [.data, .data, .data, .data, .sentinel, .sentinel, .pinned] true (true, "f5978d46c07f0da5ee69488404ae682c79dd4e309cc46e29ddb0ab219e64abfa") true wireOrder.over (fun _ h => by cases h) (by kernel_rfl) (fun _ h => by cases h) wireOrder_row_tie rfl ⟨rfl, rfl⟩ (by kernel_rfl) rfl
    (fun f fn hf hfn => by
      obtain rfl : f = 6 := Option.some.inj ((show Tryz.prog.funcNamed "foghorn/foghornlaw12.WireOrder" = some 6 by kernel_rfl).symm.trans hf) |>.symm
      obtain rfl : fn = Tryz.f6 := (Option.some.inj (Tryz.func6.symm.trans hfn)).symm
      exact ⟨by kernel_rfl, fun j t ht => by
        rw [Tryz.params6] at ht
        have hm : t ∈ [27, 3] := by simpa using Array.mem_of_getElem? ht
        have hall : ([27, 3].all fun u => !Tryz.prog.wantsStandIn u) = true := by kernel_rfl
        exact (show Tryz.prog.wantsStandIn t = false by simpa using List.all_eq_true.1 hall t hm)⟩)
    (by kernel_rfl)
#print axioms wireOrder_holds
end Go.Proofs.YtjfknmlchdifjaaGreatDoor
