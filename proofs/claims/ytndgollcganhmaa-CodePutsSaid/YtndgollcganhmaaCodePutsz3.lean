/- Part 3 of a proof: contracts and plain laws of what the statement reaches. No condition. -/
import Derived.Lib.Repeat
import Derived.Laws.BitsLemmas
import Derived.Laws.Entries
import Derived.WalkKit
import Derived.Laws.BytesArg
import Derived.Test.YtndgollcganhmaaCodePutsz1
import Derived.Test.YtndgollcganhmaaCodePutsz2
set_option linter.unusedVariables false
set_option linter.unusedSimpArgs false
namespace Go.Proofs.YtndgollcganhmaaQ.P
open Go.RowKit Go.Proofs.YtndgollcganhmaaW.PrintWords Go.Proofs.YtndgollcganhmaaW.PrintLast Go.Proofs.YtndgollcganhmaaW.PrintMore
attribute [local go_sem] max2_int min2_int max_two min_two max_three min_three max_four min_four
def foghornref17_duty.f (l0_0 : List (S41)) (a0_1 : Int) (a0_2 : Int) (a0_3 : Int) (a0_4 : Int) (a0_5 : Int) : Option (Bool) := (foghornref10_Right.f l0_0).bind fun t256 => (if t256 = true then (if a0_1 ≥ 0 then (if a0_1 ≤ 3 then (if a0_2 ≥ 0 then (if a0_2 ≤ 3 then (if a0_3 ≥ 0 then (if a0_3 ≤ 99 then ((foghornref05_Right.f a0_4).bind fun t257 => (if t257 = true then (if a0_5 ≥ 1 then (some (decide (a0_5 ≤ 3))) else (some false)) else (some false))) else (some false)) else (some false)) else (some false)) else (some false)) else (some false)) else (some false)) else (some false))
set_option maxHeartbeats 8000000 in
set_option maxRecDepth 100000 in
theorem foghornref17_duty.calls (A0_0 : Option Addr) (c0_0 : Nat) (l0_0 : List (S41)) (a0_1 : Int) (a0_2 : Int) (a0_3 : Int) (a0_4 : Int) (a0_5 : Int) (r : Bool) (w : World) (hr0_0 : Kd.C k41 w A0_0 l0_0.length l0_0) (hc0_0 : l0_0.length ≤ c0_0) (h : foghornref17_duty.f l0_0 a0_1 a0_2 a0_3 a0_4 a0_5 = some r) :
  Calls Try.prog 55 #[.agg #[.slice A0_0 l0_0.length c0_0, .int .i64 a0_1, .int .i64 a0_2, .int .i64 a0_3, .int .i64 a0_4, .int .i64 a0_5]] w fun e w' => e = .returned (.bool r) ∧ Below w.heap.size w w' := by
 have hu46 := Try.underlying46
 have HR0_0 := aA hr0_0
 have HC0_0 := aA hc0_0
 clear hr0_0 hc0_0
 have HB := aA (Below.refl w.heap.size w)
 have H : ((foghornref10_Right.f l0_0).bind fun t256 => (if t256 = true then (if a0_1 ≥ 0 then (if a0_1 ≤ 3 then (if a0_2 ≥ 0 then (if a0_2 ≤ 3 then (if a0_3 ≥ 0 then (if a0_3 ≤ 99 then ((foghornref05_Right.f a0_4).bind fun t257 => (if t257 = true then (if a0_5 ≥ 1 then (some (decide (a0_5 ≤ 3))) else (some false)) else (some false))) else (some false)) else (some false)) else (some false)) else (some false)) else (some false)) else (some false)) else (some false))) = some r := h
 clear h
 replace H := Option.bind_eq_some_iff.mp H
 obtain ⟨t256, A20, H⟩ := H
 have A2 := aA A20
 clear A20
 by_cases c3 : t256 = true
 ·subst c3
  have H1 : (if a0_1 ≥ 0 then (if a0_1 ≤ 3 then (if a0_2 ≥ 0 then (if a0_2 ≤ 3 then (if a0_3 ≥ 0 then (if a0_3 ≤ 99 then ((foghornref05_Right.f a0_4).bind fun t257 => (if t257 = true then (if a0_5 ≥ 1 then (some (decide (a0_5 ≤ 3))) else (some false)) else (some false))) else (some false)) else (some false)) else (some false)) else (some false)) else (some false)) else (some false)) = some r := by rw [if_pos rfl] at H; exact H
  clear H
  have H := H1
  clear H1
  by_cases c4 : a0_1 ≥ 0
  ·rw [if_pos c4] at H
   have c4b0 : decide (0 ≤ a0_1) = true := decide_eq_true c4
   clear c4
   by_cases c5 : a0_1 ≤ 3
   ·rw [if_pos c5] at H
    have c5b0 : decide (a0_1 ≤ 3) = true := decide_eq_true c5
    clear c5
    by_cases c6 : a0_2 ≥ 0
    ·rw [if_pos c6] at H
     have c6b0 : decide (0 ≤ a0_2) = true := decide_eq_true c6
     clear c6
     by_cases c7 : a0_2 ≤ 3
     ·rw [if_pos c7] at H
      have c7b0 : decide (a0_2 ≤ 3) = true := decide_eq_true c7
      clear c7
      by_cases c8 : a0_3 ≥ 0
      ·rw [if_pos c8] at H
       have c8b0 : decide (0 ≤ a0_3) = true := decide_eq_true c8
       clear c8
       by_cases c9 : a0_3 ≤ 99
       ·rw [if_pos c9] at H
        have c9b0 : decide (a0_3 ≤ 99) = true := decide_eq_true c9
        clear c9
        replace H := Option.bind_eq_some_iff.mp H
        obtain ⟨t257, A100, H⟩ := H
        have A10 := aA A100
        clear A100
        by_cases c11 : t257 = true
        ·subst c11
         have H1 : (if a0_5 ≥ 1 then (some (decide (a0_5 ≤ 3))) else (some false)) = some r := by rw [if_pos rfl] at H; exact H
         clear H
         have H := H1
         clear H1
         by_cases c12 : a0_5 ≥ 1
         ·rw [if_pos c12] at H
          have c12b0 : decide (1 ≤ a0_5) = true := decide_eq_true c12
          clear c12
          obtain rfl := Option.some.inj H
          go_enter Try.func55, Try.ntmps55
          go_wp2_with (first | ((with_reducible refine gate_dst (N := 1) rfl ?_); refine box_event ?hg (N := 1) ?hd (cs := #[.slice A0_0 l0_0.length c0_0, .int .i64 a0_1, .int .i64 a0_2, .int .i64 a0_3, .int .i64 a0_4, .int .i64 a0_5]) (t := 46) ?hr ?_; (case hd => rfl); (case hg => rfl); (case hr => first | (go_simp; done) | (go_simp; rfl)); intro gb255 hg w13 hbox hb; have n0_ := aA (below_step mB hb); have n1_ := aA (hbox); have n2_ := aA ((bZ hg mB)); have n3_ := aA ((bZ hg mB)); clear HB; have HB := n0_; have BK255 := n1_; have GW255 := n2_; have GE255 := n3_; clear n0_ n1_ n2_ n3_ hb hbox hg; obtain ⟨hcz14_0, hcz14_1, hcz14_2, hcz14_3, hcz14_4, hcz14_5⟩ := bC6 BK255.out; obtain ⟨hfz14_0, hfz14_1, hfz14_2, hfz14_3, hfz14_4, hfz14_5⟩ := bF6 BK255.out) | ((with_reducible refine gate_callee (f := 16) rfl ?_); refine goesL_ (some 5) rfl rfl Try.func16 (by kernel_rfl) rfl #[.slice A0_0 l0_0.length c0_0] rfl mS ?_; (with_reducible refine (foghornref10_Right.calls _ _ l0_0 true _ ?side1 ?side2 A2.out).mono ?_); (case side1 => exact mC ((Kd.C_below HR0_0.out HB.out))); (case side2 => exact HC0_0.out); rintro e w15 ⟨rfl, hb⟩; refine ⟨_, rfl, ?_⟩; have n0_ := aA (bB BK255.out hb); have n1_ := aA (below_step (mD1 GE255.out) hb); clear BK255 HB; have BK255 := n0_; have HB := n1_; clear n0_ n1_; (try clear hb); (try clear hb2); (try clear hk); (try clear hi); obtain ⟨hcz16_0, hcz16_1, hcz16_2, hcz16_3, hcz16_4, hcz16_5⟩ := bC6 BK255.out; obtain ⟨hfz16_0, hfz16_1, hfz16_2, hfz16_3, hfz16_4, hfz16_5⟩ := bF6 BK255.out) | (go_at_call 87; (with_reducible refine (foghornref05_Right.calls a0_4 true _ A10.out).mono ?_); rintro e w' ⟨rfl, ⟨nd, rfl⟩⟩))
          go_ret
          exact ⟨by first | rfl | (simp [errW_none, errW_some] <;> rfl) | (simp [*, errW_none, errW_some] <;> rfl), by repeat (first | (with_reducible first | exact HB.out | apply below_alloc | apply pw_below_drewN | apply below_drew1 | refine below_set ?_ GE255.out) | exact HB.out)⟩
         ·rw [if_neg c12] at H
          have c12b0 : decide (1 ≤ a0_5) = false := decide_eq_false c12
          clear c12
          obtain rfl := Option.some.inj H
          go_enter Try.func55, Try.ntmps55
          go_wp2_with (first | ((with_reducible refine gate_dst (N := 1) rfl ?_); refine box_event ?hg (N := 1) ?hd (cs := #[.slice A0_0 l0_0.length c0_0, .int .i64 a0_1, .int .i64 a0_2, .int .i64 a0_3, .int .i64 a0_4, .int .i64 a0_5]) (t := 46) ?hr ?_; (case hd => rfl); (case hg => rfl); (case hr => first | (go_simp; done) | (go_simp; rfl)); intro gb255 hg w17 hbox hb; have n0_ := aA (below_step mB hb); have n1_ := aA (hbox); have n2_ := aA ((bZ hg mB)); have n3_ := aA ((bZ hg mB)); clear HB; have HB := n0_; have BK255 := n1_; have GW255 := n2_; have GE255 := n3_; clear n0_ n1_ n2_ n3_ hb hbox hg; obtain ⟨hcz18_0, hcz18_1, hcz18_2, hcz18_3, hcz18_4, hcz18_5⟩ := bC6 BK255.out; obtain ⟨hfz18_0, hfz18_1, hfz18_2, hfz18_3, hfz18_4, hfz18_5⟩ := bF6 BK255.out) | ((with_reducible refine gate_callee (f := 16) rfl ?_); refine goesL_ (some 5) rfl rfl Try.func16 (by kernel_rfl) rfl #[.slice A0_0 l0_0.length c0_0] rfl mS ?_; (with_reducible refine (foghornref10_Right.calls _ _ l0_0 true _ ?side1 ?side2 A2.out).mono ?_); (case side1 => exact mC ((Kd.C_below HR0_0.out HB.out))); (case side2 => exact HC0_0.out); rintro e w19 ⟨rfl, hb⟩; refine ⟨_, rfl, ?_⟩; have n0_ := aA (bB BK255.out hb); have n1_ := aA (below_step (mD1 GE255.out) hb); clear BK255 HB; have BK255 := n0_; have HB := n1_; clear n0_ n1_; (try clear hb); (try clear hb2); (try clear hk); (try clear hi); obtain ⟨hcz20_0, hcz20_1, hcz20_2, hcz20_3, hcz20_4, hcz20_5⟩ := bC6 BK255.out; obtain ⟨hfz20_0, hfz20_1, hfz20_2, hfz20_3, hfz20_4, hfz20_5⟩ := bF6 BK255.out) | (go_at_call 87; (with_reducible refine (foghornref05_Right.calls a0_4 true _ A10.out).mono ?_); rintro e w' ⟨rfl, ⟨nd, rfl⟩⟩))
          go_ret
          exact ⟨by first | rfl | (simp [errW_none, errW_some] <;> rfl) | (simp [*, errW_none, errW_some] <;> rfl), by repeat (first | (with_reducible first | exact HB.out | apply below_alloc | apply pw_below_drewN | apply below_drew1 | refine below_set ?_ GE255.out) | exact HB.out)⟩
        ·replace c11 := Bool.eq_false_iff.mpr c11
         subst c11
         have H1 : (some false) = some r := by rw [if_neg (show ¬ (false = true) by decide)] at H; exact H
         clear H
         have H := H1
         clear H1
         obtain rfl := Option.some.inj H
         go_enter Try.func55, Try.ntmps55
         go_wp2_with (first | ((with_reducible refine gate_dst (N := 1) rfl ?_); refine box_event ?hg (N := 1) ?hd (cs := #[.slice A0_0 l0_0.length c0_0, .int .i64 a0_1, .int .i64 a0_2, .int .i64 a0_3, .int .i64 a0_4, .int .i64 a0_5]) (t := 46) ?hr ?_; (case hd => rfl); (case hg => rfl); (case hr => first | (go_simp; done) | (go_simp; rfl)); intro gb255 hg w21 hbox hb; have n0_ := aA (below_step mB hb); have n1_ := aA (hbox); have n2_ := aA ((bZ hg mB)); have n3_ := aA ((bZ hg mB)); clear HB; have HB := n0_; have BK255 := n1_; have GW255 := n2_; have GE255 := n3_; clear n0_ n1_ n2_ n3_ hb hbox hg; obtain ⟨hcz22_0, hcz22_1, hcz22_2, hcz22_3, hcz22_4, hcz22_5⟩ := bC6 BK255.out; obtain ⟨hfz22_0, hfz22_1, hfz22_2, hfz22_3, hfz22_4, hfz22_5⟩ := bF6 BK255.out) | ((with_reducible refine gate_callee (f := 16) rfl ?_); refine goesL_ (some 5) rfl rfl Try.func16 (by kernel_rfl) rfl #[.slice A0_0 l0_0.length c0_0] rfl mS ?_; (with_reducible refine (foghornref10_Right.calls _ _ l0_0 true _ ?side1 ?side2 A2.out).mono ?_); (case side1 => exact mC ((Kd.C_below HR0_0.out HB.out))); (case side2 => exact HC0_0.out); rintro e w23 ⟨rfl, hb⟩; refine ⟨_, rfl, ?_⟩; have n0_ := aA (bB BK255.out hb); have n1_ := aA (below_step (mD1 GE255.out) hb); clear BK255 HB; have BK255 := n0_; have HB := n1_; clear n0_ n1_; (try clear hb); (try clear hb2); (try clear hk); (try clear hi); obtain ⟨hcz24_0, hcz24_1, hcz24_2, hcz24_3, hcz24_4, hcz24_5⟩ := bC6 BK255.out; obtain ⟨hfz24_0, hfz24_1, hfz24_2, hfz24_3, hfz24_4, hfz24_5⟩ := bF6 BK255.out) | (go_at_call 87; (with_reducible refine (foghornref05_Right.calls a0_4 false _ A10.out).mono ?_); rintro e w' ⟨rfl, ⟨nd, rfl⟩⟩))
         go_ret
         exact ⟨by first | rfl | (simp [errW_none, errW_some] <;> rfl) | (simp [*, errW_none, errW_some] <;> rfl), by repeat (first | (with_reducible first | exact HB.out | apply below_alloc | apply pw_below_drewN | apply below_drew1 | refine below_set ?_ GE255.out) | exact HB.out)⟩
       ·rw [if_neg c9] at H
        have c9b0 : decide (a0_3 ≤ 99) = false := decide_eq_false c9
        clear c9
        obtain rfl := Option.some.inj H
        go_enter Try.func55, Try.ntmps55
        go_wp2_with (first | ((with_reducible refine gate_dst (N := 1) rfl ?_); refine box_event ?hg (N := 1) ?hd (cs := #[.slice A0_0 l0_0.length c0_0, .int .i64 a0_1, .int .i64 a0_2, .int .i64 a0_3, .int .i64 a0_4, .int .i64 a0_5]) (t := 46) ?hr ?_; (case hd => rfl); (case hg => rfl); (case hr => first | (go_simp; done) | (go_simp; rfl)); intro gb255 hg w25 hbox hb; have n0_ := aA (below_step mB hb); have n1_ := aA (hbox); have n2_ := aA ((bZ hg mB)); have n3_ := aA ((bZ hg mB)); clear HB; have HB := n0_; have BK255 := n1_; have GW255 := n2_; have GE255 := n3_; clear n0_ n1_ n2_ n3_ hb hbox hg; obtain ⟨hcz26_0, hcz26_1, hcz26_2, hcz26_3, hcz26_4, hcz26_5⟩ := bC6 BK255.out; obtain ⟨hfz26_0, hfz26_1, hfz26_2, hfz26_3, hfz26_4, hfz26_5⟩ := bF6 BK255.out) | ((with_reducible refine gate_callee (f := 16) rfl ?_); refine goesL_ (some 5) rfl rfl Try.func16 (by kernel_rfl) rfl #[.slice A0_0 l0_0.length c0_0] rfl mS ?_; (with_reducible refine (foghornref10_Right.calls _ _ l0_0 true _ ?side1 ?side2 A2.out).mono ?_); (case side1 => exact mC ((Kd.C_below HR0_0.out HB.out))); (case side2 => exact HC0_0.out); rintro e w27 ⟨rfl, hb⟩; refine ⟨_, rfl, ?_⟩; have n0_ := aA (bB BK255.out hb); have n1_ := aA (below_step (mD1 GE255.out) hb); clear BK255 HB; have BK255 := n0_; have HB := n1_; clear n0_ n1_; (try clear hb); (try clear hb2); (try clear hk); (try clear hi); obtain ⟨hcz28_0, hcz28_1, hcz28_2, hcz28_3, hcz28_4, hcz28_5⟩ := bC6 BK255.out; obtain ⟨hfz28_0, hfz28_1, hfz28_2, hfz28_3, hfz28_4, hfz28_5⟩ := bF6 BK255.out))
        go_ret
        exact ⟨by first | rfl | (simp [errW_none, errW_some] <;> rfl) | (simp [*, errW_none, errW_some] <;> rfl), by repeat (first | (with_reducible first | exact HB.out | apply below_alloc | apply pw_below_drewN | apply below_drew1 | refine below_set ?_ GE255.out) | exact HB.out)⟩
      ·rw [if_neg c8] at H
       have c8b0 : decide (0 ≤ a0_3) = false := decide_eq_false c8
       clear c8
       obtain rfl := Option.some.inj H
       go_enter Try.func55, Try.ntmps55
       go_wp2_with (first | ((with_reducible refine gate_dst (N := 1) rfl ?_); refine box_event ?hg (N := 1) ?hd (cs := #[.slice A0_0 l0_0.length c0_0, .int .i64 a0_1, .int .i64 a0_2, .int .i64 a0_3, .int .i64 a0_4, .int .i64 a0_5]) (t := 46) ?hr ?_; (case hd => rfl); (case hg => rfl); (case hr => first | (go_simp; done) | (go_simp; rfl)); intro gb255 hg w29 hbox hb; have n0_ := aA (below_step mB hb); have n1_ := aA (hbox); have n2_ := aA ((bZ hg mB)); have n3_ := aA ((bZ hg mB)); clear HB; have HB := n0_; have BK255 := n1_; have GW255 := n2_; have GE255 := n3_; clear n0_ n1_ n2_ n3_ hb hbox hg; obtain ⟨hcz30_0, hcz30_1, hcz30_2, hcz30_3, hcz30_4, hcz30_5⟩ := bC6 BK255.out; obtain ⟨hfz30_0, hfz30_1, hfz30_2, hfz30_3, hfz30_4, hfz30_5⟩ := bF6 BK255.out) | ((with_reducible refine gate_callee (f := 16) rfl ?_); refine goesL_ (some 5) rfl rfl Try.func16 (by kernel_rfl) rfl #[.slice A0_0 l0_0.length c0_0] rfl mS ?_; (with_reducible refine (foghornref10_Right.calls _ _ l0_0 true _ ?side1 ?side2 A2.out).mono ?_); (case side1 => exact mC ((Kd.C_below HR0_0.out HB.out))); (case side2 => exact HC0_0.out); rintro e w31 ⟨rfl, hb⟩; refine ⟨_, rfl, ?_⟩; have n0_ := aA (bB BK255.out hb); have n1_ := aA (below_step (mD1 GE255.out) hb); clear BK255 HB; have BK255 := n0_; have HB := n1_; clear n0_ n1_; (try clear hb); (try clear hb2); (try clear hk); (try clear hi); obtain ⟨hcz32_0, hcz32_1, hcz32_2, hcz32_3, hcz32_4, hcz32_5⟩ := bC6 BK255.out; obtain ⟨hfz32_0, hfz32_1, hfz32_2, hfz32_3, hfz32_4, hfz32_5⟩ := bF6 BK255.out))
       go_ret
       exact ⟨by first | rfl | (simp [errW_none, errW_some] <;> rfl) | (simp [*, errW_none, errW_some] <;> rfl), by repeat (first | (with_reducible first | exact HB.out | apply below_alloc | apply pw_below_drewN | apply below_drew1 | refine below_set ?_ GE255.out) | exact HB.out)⟩
     ·rw [if_neg c7] at H
      have c7b0 : decide (a0_2 ≤ 3) = false := decide_eq_false c7
      clear c7
      obtain rfl := Option.some.inj H
      go_enter Try.func55, Try.ntmps55
      go_wp2_with (first | ((with_reducible refine gate_dst (N := 1) rfl ?_); refine box_event ?hg (N := 1) ?hd (cs := #[.slice A0_0 l0_0.length c0_0, .int .i64 a0_1, .int .i64 a0_2, .int .i64 a0_3, .int .i64 a0_4, .int .i64 a0_5]) (t := 46) ?hr ?_; (case hd => rfl); (case hg => rfl); (case hr => first | (go_simp; done) | (go_simp; rfl)); intro gb255 hg w33 hbox hb; have n0_ := aA (below_step mB hb); have n1_ := aA (hbox); have n2_ := aA ((bZ hg mB)); have n3_ := aA ((bZ hg mB)); clear HB; have HB := n0_; have BK255 := n1_; have GW255 := n2_; have GE255 := n3_; clear n0_ n1_ n2_ n3_ hb hbox hg; obtain ⟨hcz34_0, hcz34_1, hcz34_2, hcz34_3, hcz34_4, hcz34_5⟩ := bC6 BK255.out; obtain ⟨hfz34_0, hfz34_1, hfz34_2, hfz34_3, hfz34_4, hfz34_5⟩ := bF6 BK255.out) | ((with_reducible refine gate_callee (f := 16) rfl ?_); refine goesL_ (some 5) rfl rfl Try.func16 (by kernel_rfl) rfl #[.slice A0_0 l0_0.length c0_0] rfl mS ?_; (with_reducible refine (foghornref10_Right.calls _ _ l0_0 true _ ?side1 ?side2 A2.out).mono ?_); (case side1 => exact mC ((Kd.C_below HR0_0.out HB.out))); (case side2 => exact HC0_0.out); rintro e w35 ⟨rfl, hb⟩; refine ⟨_, rfl, ?_⟩; have n0_ := aA (bB BK255.out hb); have n1_ := aA (below_step (mD1 GE255.out) hb); clear BK255 HB; have BK255 := n0_; have HB := n1_; clear n0_ n1_; (try clear hb); (try clear hb2); (try clear hk); (try clear hi); obtain ⟨hcz36_0, hcz36_1, hcz36_2, hcz36_3, hcz36_4, hcz36_5⟩ := bC6 BK255.out; obtain ⟨hfz36_0, hfz36_1, hfz36_2, hfz36_3, hfz36_4, hfz36_5⟩ := bF6 BK255.out))
      go_ret
      exact ⟨by first | rfl | (simp [errW_none, errW_some] <;> rfl) | (simp [*, errW_none, errW_some] <;> rfl), by repeat (first | (with_reducible first | exact HB.out | apply below_alloc | apply pw_below_drewN | apply below_drew1 | refine below_set ?_ GE255.out) | exact HB.out)⟩
    ·rw [if_neg c6] at H
     have c6b0 : decide (0 ≤ a0_2) = false := decide_eq_false c6
     clear c6
     obtain rfl := Option.some.inj H
     go_enter Try.func55, Try.ntmps55
     go_wp2_with (first | ((with_reducible refine gate_dst (N := 1) rfl ?_); refine box_event ?hg (N := 1) ?hd (cs := #[.slice A0_0 l0_0.length c0_0, .int .i64 a0_1, .int .i64 a0_2, .int .i64 a0_3, .int .i64 a0_4, .int .i64 a0_5]) (t := 46) ?hr ?_; (case hd => rfl); (case hg => rfl); (case hr => first | (go_simp; done) | (go_simp; rfl)); intro gb255 hg w37 hbox hb; have n0_ := aA (below_step mB hb); have n1_ := aA (hbox); have n2_ := aA ((bZ hg mB)); have n3_ := aA ((bZ hg mB)); clear HB; have HB := n0_; have BK255 := n1_; have GW255 := n2_; have GE255 := n3_; clear n0_ n1_ n2_ n3_ hb hbox hg; obtain ⟨hcz38_0, hcz38_1, hcz38_2, hcz38_3, hcz38_4, hcz38_5⟩ := bC6 BK255.out; obtain ⟨hfz38_0, hfz38_1, hfz38_2, hfz38_3, hfz38_4, hfz38_5⟩ := bF6 BK255.out) | ((with_reducible refine gate_callee (f := 16) rfl ?_); refine goesL_ (some 5) rfl rfl Try.func16 (by kernel_rfl) rfl #[.slice A0_0 l0_0.length c0_0] rfl mS ?_; (with_reducible refine (foghornref10_Right.calls _ _ l0_0 true _ ?side1 ?side2 A2.out).mono ?_); (case side1 => exact mC ((Kd.C_below HR0_0.out HB.out))); (case side2 => exact HC0_0.out); rintro e w39 ⟨rfl, hb⟩; refine ⟨_, rfl, ?_⟩; have n0_ := aA (bB BK255.out hb); have n1_ := aA (below_step (mD1 GE255.out) hb); clear BK255 HB; have BK255 := n0_; have HB := n1_; clear n0_ n1_; (try clear hb); (try clear hb2); (try clear hk); (try clear hi); obtain ⟨hcz40_0, hcz40_1, hcz40_2, hcz40_3, hcz40_4, hcz40_5⟩ := bC6 BK255.out; obtain ⟨hfz40_0, hfz40_1, hfz40_2, hfz40_3, hfz40_4, hfz40_5⟩ := bF6 BK255.out))
     go_ret
     exact ⟨by first | rfl | (simp [errW_none, errW_some] <;> rfl) | (simp [*, errW_none, errW_some] <;> rfl), by repeat (first | (with_reducible first | exact HB.out | apply below_alloc | apply pw_below_drewN | apply below_drew1 | refine below_set ?_ GE255.out) | exact HB.out)⟩
   ·rw [if_neg c5] at H
    have c5b0 : decide (a0_1 ≤ 3) = false := decide_eq_false c5
    clear c5
    obtain rfl := Option.some.inj H
    go_enter Try.func55, Try.ntmps55
    go_wp2_with (first | ((with_reducible refine gate_dst (N := 1) rfl ?_); refine box_event ?hg (N := 1) ?hd (cs := #[.slice A0_0 l0_0.length c0_0, .int .i64 a0_1, .int .i64 a0_2, .int .i64 a0_3, .int .i64 a0_4, .int .i64 a0_5]) (t := 46) ?hr ?_; (case hd => rfl); (case hg => rfl); (case hr => first | (go_simp; done) | (go_simp; rfl)); intro gb255 hg w41 hbox hb; have n0_ := aA (below_step mB hb); have n1_ := aA (hbox); have n2_ := aA ((bZ hg mB)); have n3_ := aA ((bZ hg mB)); clear HB; have HB := n0_; have BK255 := n1_; have GW255 := n2_; have GE255 := n3_; clear n0_ n1_ n2_ n3_ hb hbox hg; obtain ⟨hcz42_0, hcz42_1, hcz42_2, hcz42_3, hcz42_4, hcz42_5⟩ := bC6 BK255.out; obtain ⟨hfz42_0, hfz42_1, hfz42_2, hfz42_3, hfz42_4, hfz42_5⟩ := bF6 BK255.out) | ((with_reducible refine gate_callee (f := 16) rfl ?_); refine goesL_ (some 5) rfl rfl Try.func16 (by kernel_rfl) rfl #[.slice A0_0 l0_0.length c0_0] rfl mS ?_; (with_reducible refine (foghornref10_Right.calls _ _ l0_0 true _ ?side1 ?side2 A2.out).mono ?_); (case side1 => exact mC ((Kd.C_below HR0_0.out HB.out))); (case side2 => exact HC0_0.out); rintro e w43 ⟨rfl, hb⟩; refine ⟨_, rfl, ?_⟩; have n0_ := aA (bB BK255.out hb); have n1_ := aA (below_step (mD1 GE255.out) hb); clear BK255 HB; have BK255 := n0_; have HB := n1_; clear n0_ n1_; (try clear hb); (try clear hb2); (try clear hk); (try clear hi); obtain ⟨hcz44_0, hcz44_1, hcz44_2, hcz44_3, hcz44_4, hcz44_5⟩ := bC6 BK255.out; obtain ⟨hfz44_0, hfz44_1, hfz44_2, hfz44_3, hfz44_4, hfz44_5⟩ := bF6 BK255.out))
    go_ret
    exact ⟨by first | rfl | (simp [errW_none, errW_some] <;> rfl) | (simp [*, errW_none, errW_some] <;> rfl), by repeat (first | (with_reducible first | exact HB.out | apply below_alloc | apply pw_below_drewN | apply below_drew1 | refine below_set ?_ GE255.out) | exact HB.out)⟩
  ·rw [if_neg c4] at H
   have c4b0 : decide (0 ≤ a0_1) = false := decide_eq_false c4
   clear c4
   obtain rfl := Option.some.inj H
   go_enter Try.func55, Try.ntmps55
   go_wp2_with (first | ((with_reducible refine gate_dst (N := 1) rfl ?_); refine box_event ?hg (N := 1) ?hd (cs := #[.slice A0_0 l0_0.length c0_0, .int .i64 a0_1, .int .i64 a0_2, .int .i64 a0_3, .int .i64 a0_4, .int .i64 a0_5]) (t := 46) ?hr ?_; (case hd => rfl); (case hg => rfl); (case hr => first | (go_simp; done) | (go_simp; rfl)); intro gb255 hg w45 hbox hb; have n0_ := aA (below_step mB hb); have n1_ := aA (hbox); have n2_ := aA ((bZ hg mB)); have n3_ := aA ((bZ hg mB)); clear HB; have HB := n0_; have BK255 := n1_; have GW255 := n2_; have GE255 := n3_; clear n0_ n1_ n2_ n3_ hb hbox hg; obtain ⟨hcz46_0, hcz46_1, hcz46_2, hcz46_3, hcz46_4, hcz46_5⟩ := bC6 BK255.out; obtain ⟨hfz46_0, hfz46_1, hfz46_2, hfz46_3, hfz46_4, hfz46_5⟩ := bF6 BK255.out) | ((with_reducible refine gate_callee (f := 16) rfl ?_); refine goesL_ (some 5) rfl rfl Try.func16 (by kernel_rfl) rfl #[.slice A0_0 l0_0.length c0_0] rfl mS ?_; (with_reducible refine (foghornref10_Right.calls _ _ l0_0 true _ ?side1 ?side2 A2.out).mono ?_); (case side1 => exact mC ((Kd.C_below HR0_0.out HB.out))); (case side2 => exact HC0_0.out); rintro e w47 ⟨rfl, hb⟩; refine ⟨_, rfl, ?_⟩; have n0_ := aA (bB BK255.out hb); have n1_ := aA (below_step (mD1 GE255.out) hb); clear BK255 HB; have BK255 := n0_; have HB := n1_; clear n0_ n1_; (try clear hb); (try clear hb2); (try clear hk); (try clear hi); obtain ⟨hcz48_0, hcz48_1, hcz48_2, hcz48_3, hcz48_4, hcz48_5⟩ := bC6 BK255.out; obtain ⟨hfz48_0, hfz48_1, hfz48_2, hfz48_3, hfz48_4, hfz48_5⟩ := bF6 BK255.out))
   go_ret
   exact ⟨by first | rfl | (simp [errW_none, errW_some] <;> rfl) | (simp [*, errW_none, errW_some] <;> rfl), by repeat (first | (with_reducible first | exact HB.out | apply below_alloc | apply pw_below_drewN | apply below_drew1 | refine below_set ?_ GE255.out) | exact HB.out)⟩
 ·replace c3 := Bool.eq_false_iff.mpr c3
  subst c3
  have H1 : (some false) = some r := by rw [if_neg (show ¬ (false = true) by decide)] at H; exact H
  clear H
  have H := H1
  clear H1
  obtain rfl := Option.some.inj H
  go_enter Try.func55, Try.ntmps55
  go_wp2_with (first | ((with_reducible refine gate_dst (N := 1) rfl ?_); refine box_event ?hg (N := 1) ?hd (cs := #[.slice A0_0 l0_0.length c0_0, .int .i64 a0_1, .int .i64 a0_2, .int .i64 a0_3, .int .i64 a0_4, .int .i64 a0_5]) (t := 46) ?hr ?_; (case hd => rfl); (case hg => rfl); (case hr => first | (go_simp; done) | (go_simp; rfl)); intro gb255 hg w49 hbox hb; have n0_ := aA (below_step mB hb); have n1_ := aA (hbox); have n2_ := aA ((bZ hg mB)); have n3_ := aA ((bZ hg mB)); clear HB; have HB := n0_; have BK255 := n1_; have GW255 := n2_; have GE255 := n3_; clear n0_ n1_ n2_ n3_ hb hbox hg; obtain ⟨hcz50_0, hcz50_1, hcz50_2, hcz50_3, hcz50_4, hcz50_5⟩ := bC6 BK255.out; obtain ⟨hfz50_0, hfz50_1, hfz50_2, hfz50_3, hfz50_4, hfz50_5⟩ := bF6 BK255.out) | ((with_reducible refine gate_callee (f := 16) rfl ?_); refine goesL_ (some 5) rfl rfl Try.func16 (by kernel_rfl) rfl #[.slice A0_0 l0_0.length c0_0] rfl mS ?_; (with_reducible refine (foghornref10_Right.calls _ _ l0_0 false _ ?side1 ?side2 A2.out).mono ?_); (case side1 => exact mC ((Kd.C_below HR0_0.out HB.out))); (case side2 => exact HC0_0.out); rintro e w51 ⟨rfl, hb⟩; refine ⟨_, rfl, ?_⟩; have n0_ := aA (bB BK255.out hb); have n1_ := aA (below_step (mD1 GE255.out) hb); clear BK255 HB; have BK255 := n0_; have HB := n1_; clear n0_ n1_; (try clear hb); (try clear hb2); (try clear hk); (try clear hi)))
  go_ret
  exact ⟨by first | rfl | (simp [errW_none, errW_some] <;> rfl) | (simp [*, errW_none, errW_some] <;> rfl), by repeat (first | (with_reducible first | exact HB.out | apply below_alloc | apply pw_below_drewN | apply below_drew1 | refine below_set ?_ GE255.out) | exact HB.out)⟩
end Go.Proofs.YtndgollcganhmaaQ.P
namespace Go.Proofs.YtndgollcganhmaaQ.P
open Go.RowKit Go.Proofs.YtndgollcganhmaaW.PrintWords Go.Proofs.YtndgollcganhmaaW.PrintLast Go.Proofs.YtndgollcganhmaaW.PrintMore
attribute [local go_sem] max2_int min2_int max_two min_two max_three min_three max_four min_four
def foghornref12_Hush.f (a0_0 : Int) (a0_1 : Int) (l0_2 : List (S35)) : Option (Bool) := (foghornref05_Right.f a0_0).bind fun t259 => (if t259 = true then ((foghornref05_Right.f a0_1).bind fun t260 => (if t260 = true then (if a0_0 < a0_1 then (if (l0_2.length : Int) ≥ 1 then ((foghornref10_Matchers.f l0_2).bind fun t261 => (some t261)) else (some false)) else (some false)) else (some false))) else (some false))
set_option maxHeartbeats 8000000 in
set_option maxRecDepth 100000 in
theorem foghornref12_Hush.calls (a0_0 : Int) (a0_1 : Int) (A0_2 : Option Addr) (c0_2 : Nat) (l0_2 : List (S35)) (r : Bool) (w : World) (hr0_2 : Kd.C k35 w A0_2 l0_2.length l0_2) (hc0_2 : l0_2.length ≤ c0_2) (h : foghornref12_Hush.f a0_0 a0_1 l0_2 = some r) :
  Calls Try.prog 56 #[.agg #[.int .i64 a0_0, .int .i64 a0_1, .slice A0_2 l0_2.length c0_2]] w fun e w' => e = .returned (.bool r) ∧ Below w.heap.size w w' := by
 have hu48 := Try.underlying48
 have HR0_2 := aA hr0_2
 have HC0_2 := aA hc0_2
 clear hr0_2 hc0_2
 have HB := aA (Below.refl w.heap.size w)
 have H : ((foghornref05_Right.f a0_0).bind fun t259 => (if t259 = true then ((foghornref05_Right.f a0_1).bind fun t260 => (if t260 = true then (if a0_0 < a0_1 then (if (l0_2.length : Int) ≥ 1 then ((foghornref10_Matchers.f l0_2).bind fun t261 => (some t261)) else (some false)) else (some false)) else (some false))) else (some false))) = some r := h
 clear h
 replace H := Option.bind_eq_some_iff.mp H
 obtain ⟨t259, A20, H⟩ := H
 have A2 := aA A20
 clear A20
 by_cases c3 : t259 = true
 ·subst c3
  have H1 : ((foghornref05_Right.f a0_1).bind fun t260 => (if t260 = true then (if a0_0 < a0_1 then (if (l0_2.length : Int) ≥ 1 then ((foghornref10_Matchers.f l0_2).bind fun t261 => (some t261)) else (some false)) else (some false)) else (some false))) = some r := by rw [if_pos rfl] at H; exact H
  clear H
  have H := H1
  clear H1
  replace H := Option.bind_eq_some_iff.mp H
  obtain ⟨t260, A40, H⟩ := H
  have A4 := aA A40
  clear A40
  by_cases c5 : t260 = true
  ·subst c5
   have H1 : (if a0_0 < a0_1 then (if (l0_2.length : Int) ≥ 1 then ((foghornref10_Matchers.f l0_2).bind fun t261 => (some t261)) else (some false)) else (some false)) = some r := by rw [if_pos rfl] at H; exact H
   clear H
   have H := H1
   clear H1
   by_cases c6 : a0_0 < a0_1
   ·rw [if_pos c6] at H
    have c6b0 : decide (a0_0 < a0_1) = true := decide_eq_true c6
    clear c6
    by_cases c7 : (l0_2.length : Int) ≥ 1
    ·rw [if_pos c7] at H
     have c7b0 : decide (1 ≤ (l0_2.length : Int)) = true := decide_eq_true c7
     have c7b1 : decide (1 ≤ l0_2.length) = true := decide_eq_true (by omega)
     clear c7
     replace H := Option.bind_eq_some_iff.mp H
     obtain ⟨t261, A80, H⟩ := H
     have A8 := aA A80
     clear A80
     obtain rfl := Option.some.inj H
     go_enter Try.func56, Try.ntmps56
     go_wp2_with (first | ((with_reducible refine gate_dst (N := 1) rfl ?_); (try (refine gate_guard (by rfl) ?_; dsimp only)); refine box_event ?hg (N := 1) ?hd (cs := #[.int .i64 a0_0, .int .i64 a0_1, .slice A0_2 l0_2.length c0_2]) (t := 48) ?hr ?_; (case hd => rfl); (case hg => rfl); (case hr => first | (go_simp; done) | (go_simp; rfl)); intro gb258 hg w9 hbox hb; have n0_ := aA (below_step mB hb); have n1_ := aA (hbox); have n2_ := aA ((bZ hg mB)); have n3_ := aA ((bZ hg mB)); clear HB; have HB := n0_; have BK258 := n1_; have GW258 := n2_; have GE258 := n3_; clear n0_ n1_ n2_ n3_ hb hbox hg; obtain ⟨hcz10_0, hcz10_1, hcz10_2⟩ := bC3 BK258.out; obtain ⟨hfz10_0, hfz10_1, hfz10_2⟩ := bF3 BK258.out) | ((with_reducible refine gate_callee (f := 87) rfl ?_); refine goesL_ (some 5) rfl rfl Try.func87 (by kernel_rfl) rfl #[.int .i64 a0_0] rfl mS ?_; (with_reducible refine (foghornref05_Right.calls a0_0 true _ A2.out).mono ?_); rintro e w' ⟨rfl, ⟨nd, rfl⟩⟩; refine ⟨_, rfl, ?_⟩) | (go_at_call 87; (with_reducible refine (foghornref05_Right.calls a0_1 true _ A4.out).mono ?_); rintro e w' ⟨rfl, ⟨nd, rfl⟩⟩) | (go_at_call 21; (with_reducible refine (foghornref10_Matchers.calls _ _ l0_2 t261 _ ?side1 ?side2 A8.out).mono ?_); (case side1 => exact mC ((Kd.C_below HR0_2.out (mD1 GE258.out)))); (case side2 => exact HC0_2.out); rintro e w11 ⟨rfl, hb⟩; have n0_ := aA (bB BK258.out hb); have n1_ := aA (below_step (mD1 GE258.out) hb); clear BK258 HB; have BK258 := n0_; have HB := n1_; clear n0_ n1_; (try clear hb); (try clear hb2); (try clear hk); (try clear hi)))
     go_ret
     exact ⟨by first | rfl | (simp [errW_none, errW_some] <;> rfl) | (simp [*, errW_none, errW_some] <;> rfl), by repeat (first | (with_reducible first | exact HB.out | apply below_alloc | apply pw_below_drewN | apply below_drew1 | refine below_set ?_ GE258.out) | exact HB.out)⟩
    ·rw [if_neg c7] at H
     have c7b0 : decide (1 ≤ (l0_2.length : Int)) = false := decide_eq_false c7
     have c7b1 : decide (1 ≤ l0_2.length) = false := decide_eq_false (by omega)
     clear c7
     obtain rfl := Option.some.inj H
     go_enter Try.func56, Try.ntmps56
     go_wp2_with (first | ((with_reducible refine gate_dst (N := 1) rfl ?_); (try (refine gate_guard (by rfl) ?_; dsimp only)); refine box_event ?hg (N := 1) ?hd (cs := #[.int .i64 a0_0, .int .i64 a0_1, .slice A0_2 l0_2.length c0_2]) (t := 48) ?hr ?_; (case hd => rfl); (case hg => rfl); (case hr => first | (go_simp; done) | (go_simp; rfl)); intro gb258 hg w12 hbox hb; have n0_ := aA (below_step mB hb); have n1_ := aA (hbox); have n2_ := aA ((bZ hg mB)); have n3_ := aA ((bZ hg mB)); clear HB; have HB := n0_; have BK258 := n1_; have GW258 := n2_; have GE258 := n3_; clear n0_ n1_ n2_ n3_ hb hbox hg; obtain ⟨hcz13_0, hcz13_1, hcz13_2⟩ := bC3 BK258.out; obtain ⟨hfz13_0, hfz13_1, hfz13_2⟩ := bF3 BK258.out) | ((with_reducible refine gate_callee (f := 87) rfl ?_); refine goesL_ (some 5) rfl rfl Try.func87 (by kernel_rfl) rfl #[.int .i64 a0_0] rfl mS ?_; (with_reducible refine (foghornref05_Right.calls a0_0 true _ A2.out).mono ?_); rintro e w' ⟨rfl, ⟨nd, rfl⟩⟩; refine ⟨_, rfl, ?_⟩) | (go_at_call 87; (with_reducible refine (foghornref05_Right.calls a0_1 true _ A4.out).mono ?_); rintro e w' ⟨rfl, ⟨nd, rfl⟩⟩))
     go_ret
     exact ⟨by first | rfl | (simp [errW_none, errW_some] <;> rfl) | (simp [*, errW_none, errW_some] <;> rfl), by repeat (first | (with_reducible first | exact HB.out | apply below_alloc | apply pw_below_drewN | apply below_drew1 | refine below_set ?_ GE258.out) | exact HB.out)⟩
   ·rw [if_neg c6] at H
    have c6b0 : decide (a0_0 < a0_1) = false := decide_eq_false c6
    clear c6
    obtain rfl := Option.some.inj H
    go_enter Try.func56, Try.ntmps56
    go_wp2_with (first | ((with_reducible refine gate_dst (N := 1) rfl ?_); (try (refine gate_guard (by rfl) ?_; dsimp only)); refine box_event ?hg (N := 1) ?hd (cs := #[.int .i64 a0_0, .int .i64 a0_1, .slice A0_2 l0_2.length c0_2]) (t := 48) ?hr ?_; (case hd => rfl); (case hg => rfl); (case hr => first | (go_simp; done) | (go_simp; rfl)); intro gb258 hg w14 hbox hb; have n0_ := aA (below_step mB hb); have n1_ := aA (hbox); have n2_ := aA ((bZ hg mB)); have n3_ := aA ((bZ hg mB)); clear HB; have HB := n0_; have BK258 := n1_; have GW258 := n2_; have GE258 := n3_; clear n0_ n1_ n2_ n3_ hb hbox hg; obtain ⟨hcz15_0, hcz15_1, hcz15_2⟩ := bC3 BK258.out; obtain ⟨hfz15_0, hfz15_1, hfz15_2⟩ := bF3 BK258.out) | ((with_reducible refine gate_callee (f := 87) rfl ?_); refine goesL_ (some 5) rfl rfl Try.func87 (by kernel_rfl) rfl #[.int .i64 a0_0] rfl mS ?_; (with_reducible refine (foghornref05_Right.calls a0_0 true _ A2.out).mono ?_); rintro e w' ⟨rfl, ⟨nd, rfl⟩⟩; refine ⟨_, rfl, ?_⟩) | (go_at_call 87; (with_reducible refine (foghornref05_Right.calls a0_1 true _ A4.out).mono ?_); rintro e w' ⟨rfl, ⟨nd, rfl⟩⟩))
    go_ret
    exact ⟨by first | rfl | (simp [errW_none, errW_some] <;> rfl) | (simp [*, errW_none, errW_some] <;> rfl), by repeat (first | (with_reducible first | exact HB.out | apply below_alloc | apply pw_below_drewN | apply below_drew1 | refine below_set ?_ GE258.out) | exact HB.out)⟩
  ·replace c5 := Bool.eq_false_iff.mpr c5
   subst c5
   have H1 : (some false) = some r := by rw [if_neg (show ¬ (false = true) by decide)] at H; exact H
   clear H
   have H := H1
   clear H1
   obtain rfl := Option.some.inj H
   go_enter Try.func56, Try.ntmps56
   go_wp2_with (first | ((with_reducible refine gate_dst (N := 1) rfl ?_); (try (refine gate_guard (by rfl) ?_; dsimp only)); refine box_event ?hg (N := 1) ?hd (cs := #[.int .i64 a0_0, .int .i64 a0_1, .slice A0_2 l0_2.length c0_2]) (t := 48) ?hr ?_; (case hd => rfl); (case hg => rfl); (case hr => first | (go_simp; done) | (go_simp; rfl)); intro gb258 hg w16 hbox hb; have n0_ := aA (below_step mB hb); have n1_ := aA (hbox); have n2_ := aA ((bZ hg mB)); have n3_ := aA ((bZ hg mB)); clear HB; have HB := n0_; have BK258 := n1_; have GW258 := n2_; have GE258 := n3_; clear n0_ n1_ n2_ n3_ hb hbox hg; obtain ⟨hcz17_0, hcz17_1, hcz17_2⟩ := bC3 BK258.out; obtain ⟨hfz17_0, hfz17_1, hfz17_2⟩ := bF3 BK258.out) | ((with_reducible refine gate_callee (f := 87) rfl ?_); refine goesL_ (some 5) rfl rfl Try.func87 (by kernel_rfl) rfl #[.int .i64 a0_0] rfl mS ?_; (with_reducible refine (foghornref05_Right.calls a0_0 true _ A2.out).mono ?_); rintro e w' ⟨rfl, ⟨nd, rfl⟩⟩; refine ⟨_, rfl, ?_⟩) | (go_at_call 87; (with_reducible refine (foghornref05_Right.calls a0_1 false _ A4.out).mono ?_); rintro e w' ⟨rfl, ⟨nd, rfl⟩⟩))
   go_ret
   exact ⟨by first | rfl | (simp [errW_none, errW_some] <;> rfl) | (simp [*, errW_none, errW_some] <;> rfl), by repeat (first | (with_reducible first | exact HB.out | apply below_alloc | apply pw_below_drewN | apply below_drew1 | refine below_set ?_ GE258.out) | exact HB.out)⟩
 ·replace c3 := Bool.eq_false_iff.mpr c3
  subst c3
  have H1 : (some false) = some r := by rw [if_neg (show ¬ (false = true) by decide)] at H; exact H
  clear H
  have H := H1
  clear H1
  obtain rfl := Option.some.inj H
  go_enter Try.func56, Try.ntmps56
  go_wp2_with (first | ((with_reducible refine gate_dst (N := 1) rfl ?_); (try (refine gate_guard (by rfl) ?_; dsimp only)); refine box_event ?hg (N := 1) ?hd (cs := #[.int .i64 a0_0, .int .i64 a0_1, .slice A0_2 l0_2.length c0_2]) (t := 48) ?hr ?_; (case hd => rfl); (case hg => rfl); (case hr => first | (go_simp; done) | (go_simp; rfl)); intro gb258 hg w18 hbox hb; have n0_ := aA (below_step mB hb); have n1_ := aA (hbox); have n2_ := aA ((bZ hg mB)); have n3_ := aA ((bZ hg mB)); clear HB; have HB := n0_; have BK258 := n1_; have GW258 := n2_; have GE258 := n3_; clear n0_ n1_ n2_ n3_ hb hbox hg; obtain ⟨hcz19_0, hcz19_1, hcz19_2⟩ := bC3 BK258.out; obtain ⟨hfz19_0, hfz19_1, hfz19_2⟩ := bF3 BK258.out) | ((with_reducible refine gate_callee (f := 87) rfl ?_); refine goesL_ (some 5) rfl rfl Try.func87 (by kernel_rfl) rfl #[.int .i64 a0_0] rfl mS ?_; (with_reducible refine (foghornref05_Right.calls a0_0 false _ A2.out).mono ?_); rintro e w' ⟨rfl, ⟨nd, rfl⟩⟩; refine ⟨_, rfl, ?_⟩))
  go_ret
  exact ⟨by first | rfl | (simp [errW_none, errW_some] <;> rfl) | (simp [*, errW_none, errW_some] <;> rfl), by repeat (first | (with_reducible first | exact HB.out | apply below_alloc | apply pw_below_drewN | apply below_drew1 | refine below_set ?_ GE258.out) | exact HB.out)⟩
end Go.Proofs.YtndgollcganhmaaQ.P
namespace Go.Proofs.YtndgollcganhmaaQ.P
open Go.RowKit Go.Proofs.YtndgollcganhmaaW.PrintWords Go.Proofs.YtndgollcganhmaaW.PrintLast Go.Proofs.YtndgollcganhmaaW.PrintMore
attribute [local go_sem] max2_int min2_int max_two min_two max_three min_three max_four min_four
def foghornref17_Right.f (k : Nat) (a0_0 : Int) (l0_1 : List (S41)) (a0_2 : Int) (a0_3 : Int) (a0_4 : Int) (a0_5 : Int) (a0_6 : Int) (l0_7 : List (S41)) (a0_8 : Int) (a0_9 : Int) (l0_10 : List (S35)) : Option (Bool) := (foghornref16_Same.f l0_1 a0_2 a0_3 a0_4 a0_5 a0_6 ([] : List (S41)) 0 0 0 0 0).bind fun t263 => ((foghornref12_Hushes.f k a0_8 a0_9 l0_10 0 0 ([] : List (S35))).bind fun t264 => (if a0_0 = 1 then ((foghornref17_duty.f l0_1 a0_2 a0_3 a0_4 a0_5 a0_6).bind fun t265 => (if t265 = true then (if (l0_7.length : Int) = 0 then (some t264) else (some false)) else (some false))) else (if a0_0 = 2 then ((foghornref10_Right.f l0_7).bind fun t266 => (if t266 = true then (if t263 = true then (some t264) else (some false)) else (some false))) else (if a0_0 = 3 then ((foghornref12_Hush.f a0_8 a0_9 l0_10).bind fun t267 => (if t267 = true then (if t263 = true then (some ((l0_7.length : Int) == 0)) else (some false)) else (some false))) else (some false)))))
set_option maxHeartbeats 8000000 in
set_option maxRecDepth 100000 in
theorem foghornref17_Right.calls (k : Nat) (a0_0 : Int) (A0_1 : Option Addr) (c0_1 : Nat) (l0_1 : List (S41)) (a0_2 : Int) (a0_3 : Int) (a0_4 : Int) (a0_5 : Int) (a0_6 : Int) (A0_7 : Option Addr) (c0_7 : Nat) (l0_7 : List (S41)) (a0_8 : Int) (a0_9 : Int) (A0_10 : Option Addr) (c0_10 : Nat) (l0_10 : List (S35)) (r : Bool) (w : World) (hr0_1 : Kd.C k41 w A0_1 l0_1.length l0_1) (hc0_1 : l0_1.length ≤ c0_1) (hr0_7 : Kd.C k41 w A0_7 l0_7.length l0_7) (hc0_7 : l0_7.length ≤ c0_7) (hr0_10 : Kd.C k35 w A0_10 l0_10.length l0_10) (hc0_10 : l0_10.length ≤ c0_10) (h : foghornref17_Right.f k a0_0 l0_1 a0_2 a0_3 a0_4 a0_5 a0_6 l0_7 a0_8 a0_9 l0_10 = some r) :
  Calls Try.prog 27 #[.agg #[.int .i64 a0_0, .slice A0_1 l0_1.length c0_1, .int .i64 a0_2, .int .i64 a0_3, .int .i64 a0_4, .int .i64 a0_5, .int .i64 a0_6, .slice A0_7 l0_7.length c0_7, .int .i64 a0_8, .int .i64 a0_9, .slice A0_10 l0_10.length c0_10]] w fun e w' => e = .returned (.bool r) ∧ Below w.heap.size w w' := by
 have hu50 := Try.underlying50
 have hu46 := Try.underlying46
 have hu48 := Try.underlying48
 have HR0_1 := aA hr0_1
 have HC0_1 := aA hc0_1
 clear hr0_1 hc0_1
 have HR0_7 := aA hr0_7
 have HC0_7 := aA hc0_7
 clear hr0_7 hc0_7
 have HR0_10 := aA hr0_10
 have HC0_10 := aA hc0_10
 clear hr0_10 hc0_10
 have HB := aA (Below.refl w.heap.size w)
 have H : ((foghornref16_Same.f l0_1 a0_2 a0_3 a0_4 a0_5 a0_6 ([] : List (S41)) 0 0 0 0 0).bind fun t263 => ((foghornref12_Hushes.f k a0_8 a0_9 l0_10 0 0 ([] : List (S35))).bind fun t264 => (if a0_0 = 1 then ((foghornref17_duty.f l0_1 a0_2 a0_3 a0_4 a0_5 a0_6).bind fun t265 => (if t265 = true then (if (l0_7.length : Int) = 0 then (some t264) else (some false)) else (some false))) else (if a0_0 = 2 then ((foghornref10_Right.f l0_7).bind fun t266 => (if t266 = true then (if t263 = true then (some t264) else (some false)) else (some false))) else (if a0_0 = 3 then ((foghornref12_Hush.f a0_8 a0_9 l0_10).bind fun t267 => (if t267 = true then (if t263 = true then (some ((l0_7.length : Int) == 0)) else (some false)) else (some false))) else (some false)))))) = some r := h
 clear h
 replace H := Option.bind_eq_some_iff.mp H
 obtain ⟨t263, A20, H⟩ := H
 have A2 := aA A20
 clear A20
 replace H := Option.bind_eq_some_iff.mp H
 obtain ⟨t264, A30, H⟩ := H
 have A3 := aA A30
 clear A30
 by_cases c4 : a0_0 = 1
 ·rw [if_pos c4] at H
  have c4b0 : (a0_0 == 1) = true := beq_iff_eq.mpr c4
  have c4b1 : (a0_0 != 1) = false := bne_eq_false_iff_eq.mpr c4
  clear c4
  replace H := Option.bind_eq_some_iff.mp H
  obtain ⟨t265, A50, H⟩ := H
  have A5 := aA A50
  clear A50
  by_cases c6 : t265 = true
  ·subst c6
   have H1 : (if (l0_7.length : Int) = 0 then (some t264) else (some false)) = some r := by rw [if_pos rfl] at H; exact H
   clear H
   have H := H1
   clear H1
   by_cases c7 : (l0_7.length : Int) = 0
   ·rw [if_pos c7] at H
    have c7b0 : ((l0_7.length : Int) == 0) = true := beq_iff_eq.mpr c7
    have c7b1 : ((l0_7.length : Int) != 0) = false := bne_eq_false_iff_eq.mpr c7
    clear c7
    obtain rfl := Option.some.inj H
    go_enter Try.func27, Try.ntmps27
    go_wp2_with (first | ((with_reducible refine gate_dst (N := 1) rfl ?_); (try (refine gate_guard (by rfl) ?_; dsimp only)); refine box_event ?hg (N := 1) ?hd (cs := #[.int .i64 a0_0, .slice A0_1 l0_1.length c0_1, .int .i64 a0_2, .int .i64 a0_3, .int .i64 a0_4, .int .i64 a0_5, .int .i64 a0_6, .slice A0_7 l0_7.length c0_7, .int .i64 a0_8, .int .i64 a0_9, .slice A0_10 l0_10.length c0_10]) (t := 50) ?hr ?_; (case hd => rfl); (case hg => rfl); (case hr => first | (go_simp; done) | (go_simp; rfl)); intro gb262 hg w8 hbox hb; have n0_ := aA (below_step mB hb); have n1_ := aA (hbox); have n2_ := aA ((bZ hg mB)); have n3_ := aA ((bZ hg mB)); clear HB; have HB := n0_; have BK262 := n1_; have GW262 := n2_; have GE262 := n3_; clear n0_ n1_ n2_ n3_ hb hbox hg; obtain ⟨hcz9_0, hcz9_1, hcz9_2, hcz9_3, hcz9_4, hcz9_5, hcz9_6, hcz9_7, hcz9_8, hcz9_9, hcz9_10⟩ := bC11 BK262.out; obtain ⟨hfz9_0, hfz9_1, hfz9_2, hfz9_3, hfz9_4, hfz9_5, hfz9_6, hfz9_7, hfz9_8, hfz9_9, hfz9_10⟩ := bF11 BK262.out) | ((with_reducible refine gate_callee (f := 53) rfl ?_); refine goesL_ (some 8) rfl rfl Try.func53 (by kernel_rfl) rfl #[.agg #[.slice A0_1 l0_1.length c0_1, .int .i64 a0_2, .int .i64 a0_3, .int .i64 a0_4, .int .i64 a0_5, .int .i64 a0_6], .agg #[.slice none 0 0, .int .i64 0, .int .i64 0, .int .i64 0, .int .i64 0, .int .i64 0]] rfl mS ?_; (refine (foghornref16_Same.calls _ _ l0_1 a0_2 a0_3 a0_4 a0_5 a0_6 _ _ ([] : List (S41)) 0 0 0 0 0 t263 _ ?side1 ?side2 ?side3 ?side4 A2.out).mono ?_); (case side1 => exact mC ((Kd.C_below HR0_1.out HB.out))); (case side2 => exact HC0_1.out); (case side3 => exact Kd.C_nil _ _); (case side4 => exact Nat.le_refl _); rintro e w10 ⟨rfl, hb⟩; refine ⟨_, rfl, ?_⟩; have n0_ := aA (bB BK262.out hb); have n1_ := aA (below_step (mD1 GE262.out) hb); clear BK262 HB; have BK262 := n0_; have HB := n1_; clear n0_ n1_; (try clear hb); (try clear hb2); (try clear hk); (try clear hi); obtain ⟨hcz11_0, hcz11_1, hcz11_2, hcz11_3, hcz11_4, hcz11_5, hcz11_6, hcz11_7, hcz11_8, hcz11_9, hcz11_10⟩ := bC11 BK262.out; obtain ⟨hfz11_0, hfz11_1, hfz11_2, hfz11_3, hfz11_4, hfz11_5, hfz11_6, hfz11_7, hfz11_8, hfz11_9, hfz11_10⟩ := bF11 BK262.out) | ((with_reducible refine gate_callee (f := 54) rfl ?_); refine goesL_ (some 12) rfl rfl Try.func54 (by kernel_rfl) rfl #[.agg #[.int .i64 a0_8, .int .i64 a0_9, .slice A0_10 l0_10.length c0_10], .agg #[.int .i64 0, .int .i64 0, .slice none 0 0]] rfl mS ?_; (refine (foghornref12_Hushes.calls k a0_8 a0_9 _ _ l0_10 0 0 _ _ ([] : List (S35)) t264 _ ?side1 ?side2 ?side3 ?side4 A3.out).mono ?_); (case side1 => exact mC ((Kd.C_below HR0_10.out HB.out))); (case side2 => exact HC0_10.out); (case side3 => exact Kd.C_nil _ _); (case side4 => exact Nat.le_refl _); rintro e w12 ⟨rfl, hb⟩; refine ⟨_, rfl, ?_⟩; have n0_ := aA (bB BK262.out hb); have n1_ := aA (below_step (mD1 GE262.out) hb); clear BK262 HB; have BK262 := n0_; have HB := n1_; clear n0_ n1_; (try clear hb); (try clear hb2); (try clear hk); (try clear hi); obtain ⟨hcz13_0, hcz13_1, hcz13_2, hcz13_3, hcz13_4, hcz13_5, hcz13_6, hcz13_7, hcz13_8, hcz13_9, hcz13_10⟩ := bC11 BK262.out; obtain ⟨hfz13_0, hfz13_1, hfz13_2, hfz13_3, hfz13_4, hfz13_5, hfz13_6, hfz13_7, hfz13_8, hfz13_9, hfz13_10⟩ := bF11 BK262.out) | ((with_reducible refine gate_callee (f := 55) rfl ?_); refine goesL_ (some 18) rfl rfl Try.func55 (by kernel_rfl) rfl #[.agg #[.slice A0_1 l0_1.length c0_1, .int .i64 a0_2, .int .i64 a0_3, .int .i64 a0_4, .int .i64 a0_5, .int .i64 a0_6]] rfl mS ?_; (with_reducible refine (foghornref17_duty.calls _ _ l0_1 a0_2 a0_3 a0_4 a0_5 a0_6 true _ ?side1 ?side2 A5.out).mono ?_); (case side1 => exact mC ((Kd.C_below HR0_1.out HB.out))); (case side2 => exact HC0_1.out); rintro e w14 ⟨rfl, hb⟩; refine ⟨_, rfl, ?_⟩; have n0_ := aA (bB BK262.out hb); have n1_ := aA (below_step (mD1 GE262.out) hb); clear BK262 HB; have BK262 := n0_; have HB := n1_; clear n0_ n1_; (try clear hb); (try clear hb2); (try clear hk); (try clear hi); obtain ⟨hcz15_0, hcz15_1, hcz15_2, hcz15_3, hcz15_4, hcz15_5, hcz15_6, hcz15_7, hcz15_8, hcz15_9, hcz15_10⟩ := bC11 BK262.out; obtain ⟨hfz15_0, hfz15_1, hfz15_2, hfz15_3, hfz15_4, hfz15_5, hfz15_6, hfz15_7, hfz15_8, hfz15_9, hfz15_10⟩ := bF11 BK262.out))
    go_ret
    exact ⟨by first | rfl | (simp [errW_none, errW_some] <;> rfl) | (simp [*, errW_none, errW_some] <;> rfl), by repeat (first | (with_reducible first | exact HB.out | apply below_alloc | apply pw_below_drewN | apply below_drew1 | refine below_set ?_ GE262.out) | exact HB.out)⟩
   ·rw [if_neg c7] at H
    have c7b0 : ((l0_7.length : Int) == 0) = false := beq_eq_false_iff_ne.mpr c7
    have c7b1 : ((l0_7.length : Int) != 0) = true := bne_iff_ne.mpr c7
    have c7b2 : ¬ (l0_7 = []) := fun h_ => c7 (by rw [h_]; rfl)
    obtain rfl := Option.some.inj H
    go_enter Try.func27, Try.ntmps27
    go_wp2_with (first | ((with_reducible refine gate_dst (N := 1) rfl ?_); (try (refine gate_guard (by rfl) ?_; dsimp only)); refine box_event ?hg (N := 1) ?hd (cs := #[.int .i64 a0_0, .slice A0_1 l0_1.length c0_1, .int .i64 a0_2, .int .i64 a0_3, .int .i64 a0_4, .int .i64 a0_5, .int .i64 a0_6, .slice A0_7 l0_7.length c0_7, .int .i64 a0_8, .int .i64 a0_9, .slice A0_10 l0_10.length c0_10]) (t := 50) ?hr ?_; (case hd => rfl); (case hg => rfl); (case hr => first | (go_simp; done) | (go_simp; rfl)); intro gb262 hg w16 hbox hb; have n0_ := aA (below_step mB hb); have n1_ := aA (hbox); have n2_ := aA ((bZ hg mB)); have n3_ := aA ((bZ hg mB)); clear HB; have HB := n0_; have BK262 := n1_; have GW262 := n2_; have GE262 := n3_; clear n0_ n1_ n2_ n3_ hb hbox hg; obtain ⟨hcz17_0, hcz17_1, hcz17_2, hcz17_3, hcz17_4, hcz17_5, hcz17_6, hcz17_7, hcz17_8, hcz17_9, hcz17_10⟩ := bC11 BK262.out; obtain ⟨hfz17_0, hfz17_1, hfz17_2, hfz17_3, hfz17_4, hfz17_5, hfz17_6, hfz17_7, hfz17_8, hfz17_9, hfz17_10⟩ := bF11 BK262.out) | ((with_reducible refine gate_callee (f := 53) rfl ?_); refine goesL_ (some 8) rfl rfl Try.func53 (by kernel_rfl) rfl #[.agg #[.slice A0_1 l0_1.length c0_1, .int .i64 a0_2, .int .i64 a0_3, .int .i64 a0_4, .int .i64 a0_5, .int .i64 a0_6], .agg #[.slice none 0 0, .int .i64 0, .int .i64 0, .int .i64 0, .int .i64 0, .int .i64 0]] rfl mS ?_; (refine (foghornref16_Same.calls _ _ l0_1 a0_2 a0_3 a0_4 a0_5 a0_6 _ _ ([] : List (S41)) 0 0 0 0 0 t263 _ ?side1 ?side2 ?side3 ?side4 A2.out).mono ?_); (case side1 => exact mC ((Kd.C_below HR0_1.out HB.out))); (case side2 => exact HC0_1.out); (case side3 => exact Kd.C_nil _ _); (case side4 => exact Nat.le_refl _); rintro e w18 ⟨rfl, hb⟩; refine ⟨_, rfl, ?_⟩; have n0_ := aA (bB BK262.out hb); have n1_ := aA (below_step (mD1 GE262.out) hb); clear BK262 HB; have BK262 := n0_; have HB := n1_; clear n0_ n1_; (try clear hb); (try clear hb2); (try clear hk); (try clear hi); obtain ⟨hcz19_0, hcz19_1, hcz19_2, hcz19_3, hcz19_4, hcz19_5, hcz19_6, hcz19_7, hcz19_8, hcz19_9, hcz19_10⟩ := bC11 BK262.out; obtain ⟨hfz19_0, hfz19_1, hfz19_2, hfz19_3, hfz19_4, hfz19_5, hfz19_6, hfz19_7, hfz19_8, hfz19_9, hfz19_10⟩ := bF11 BK262.out) | ((with_reducible refine gate_callee (f := 54) rfl ?_); refine goesL_ (some 12) rfl rfl Try.func54 (by kernel_rfl) rfl #[.agg #[.int .i64 a0_8, .int .i64 a0_9, .slice A0_10 l0_10.length c0_10], .agg #[.int .i64 0, .int .i64 0, .slice none 0 0]] rfl mS ?_; (refine (foghornref12_Hushes.calls k a0_8 a0_9 _ _ l0_10 0 0 _ _ ([] : List (S35)) t264 _ ?side1 ?side2 ?side3 ?side4 A3.out).mono ?_); (case side1 => exact mC ((Kd.C_below HR0_10.out HB.out))); (case side2 => exact HC0_10.out); (case side3 => exact Kd.C_nil _ _); (case side4 => exact Nat.le_refl _); rintro e w20 ⟨rfl, hb⟩; refine ⟨_, rfl, ?_⟩; have n0_ := aA (bB BK262.out hb); have n1_ := aA (below_step (mD1 GE262.out) hb); clear BK262 HB; have BK262 := n0_; have HB := n1_; clear n0_ n1_; (try clear hb); (try clear hb2); (try clear hk); (try clear hi); obtain ⟨hcz21_0, hcz21_1, hcz21_2, hcz21_3, hcz21_4, hcz21_5, hcz21_6, hcz21_7, hcz21_8, hcz21_9, hcz21_10⟩ := bC11 BK262.out; obtain ⟨hfz21_0, hfz21_1, hfz21_2, hfz21_3, hfz21_4, hfz21_5, hfz21_6, hfz21_7, hfz21_8, hfz21_9, hfz21_10⟩ := bF11 BK262.out) | ((with_reducible refine gate_callee (f := 55) rfl ?_); refine goesL_ (some 18) rfl rfl Try.func55 (by kernel_rfl) rfl #[.agg #[.slice A0_1 l0_1.length c0_1, .int .i64 a0_2, .int .i64 a0_3, .int .i64 a0_4, .int .i64 a0_5, .int .i64 a0_6]] rfl mS ?_; (with_reducible refine (foghornref17_duty.calls _ _ l0_1 a0_2 a0_3 a0_4 a0_5 a0_6 true _ ?side1 ?side2 A5.out).mono ?_); (case side1 => exact mC ((Kd.C_below HR0_1.out HB.out))); (case side2 => exact HC0_1.out); rintro e w22 ⟨rfl, hb⟩; refine ⟨_, rfl, ?_⟩; have n0_ := aA (bB BK262.out hb); have n1_ := aA (below_step (mD1 GE262.out) hb); clear BK262 HB; have BK262 := n0_; have HB := n1_; clear n0_ n1_; (try clear hb); (try clear hb2); (try clear hk); (try clear hi); obtain ⟨hcz23_0, hcz23_1, hcz23_2, hcz23_3, hcz23_4, hcz23_5, hcz23_6, hcz23_7, hcz23_8, hcz23_9, hcz23_10⟩ := bC11 BK262.out; obtain ⟨hfz23_0, hfz23_1, hfz23_2, hfz23_3, hfz23_4, hfz23_5, hfz23_6, hfz23_7, hfz23_8, hfz23_9, hfz23_10⟩ := bF11 BK262.out))
    go_ret
    exact ⟨by first | rfl | (simp [errW_none, errW_some] <;> rfl) | (simp [*, errW_none, errW_some] <;> rfl), by repeat (first | (with_reducible first | exact HB.out | apply below_alloc | apply pw_below_drewN | apply below_drew1 | refine below_set ?_ GE262.out) | exact HB.out)⟩
  ·replace c6 := Bool.eq_false_iff.mpr c6
   subst c6
   have H1 : (some false) = some r := by rw [if_neg (show ¬ (false = true) by decide)] at H; exact H
   clear H
   have H := H1
   clear H1
   obtain rfl := Option.some.inj H
   go_enter Try.func27, Try.ntmps27
   go_wp2_with (first | ((with_reducible refine gate_dst (N := 1) rfl ?_); (try (refine gate_guard (by rfl) ?_; dsimp only)); refine box_event ?hg (N := 1) ?hd (cs := #[.int .i64 a0_0, .slice A0_1 l0_1.length c0_1, .int .i64 a0_2, .int .i64 a0_3, .int .i64 a0_4, .int .i64 a0_5, .int .i64 a0_6, .slice A0_7 l0_7.length c0_7, .int .i64 a0_8, .int .i64 a0_9, .slice A0_10 l0_10.length c0_10]) (t := 50) ?hr ?_; (case hd => rfl); (case hg => rfl); (case hr => first | (go_simp; done) | (go_simp; rfl)); intro gb262 hg w24 hbox hb; have n0_ := aA (below_step mB hb); have n1_ := aA (hbox); have n2_ := aA ((bZ hg mB)); have n3_ := aA ((bZ hg mB)); clear HB; have HB := n0_; have BK262 := n1_; have GW262 := n2_; have GE262 := n3_; clear n0_ n1_ n2_ n3_ hb hbox hg; obtain ⟨hcz25_0, hcz25_1, hcz25_2, hcz25_3, hcz25_4, hcz25_5, hcz25_6, hcz25_7, hcz25_8, hcz25_9, hcz25_10⟩ := bC11 BK262.out; obtain ⟨hfz25_0, hfz25_1, hfz25_2, hfz25_3, hfz25_4, hfz25_5, hfz25_6, hfz25_7, hfz25_8, hfz25_9, hfz25_10⟩ := bF11 BK262.out) | ((with_reducible refine gate_callee (f := 53) rfl ?_); refine goesL_ (some 8) rfl rfl Try.func53 (by kernel_rfl) rfl #[.agg #[.slice A0_1 l0_1.length c0_1, .int .i64 a0_2, .int .i64 a0_3, .int .i64 a0_4, .int .i64 a0_5, .int .i64 a0_6], .agg #[.slice none 0 0, .int .i64 0, .int .i64 0, .int .i64 0, .int .i64 0, .int .i64 0]] rfl mS ?_; (refine (foghornref16_Same.calls _ _ l0_1 a0_2 a0_3 a0_4 a0_5 a0_6 _ _ ([] : List (S41)) 0 0 0 0 0 t263 _ ?side1 ?side2 ?side3 ?side4 A2.out).mono ?_); (case side1 => exact mC ((Kd.C_below HR0_1.out HB.out))); (case side2 => exact HC0_1.out); (case side3 => exact Kd.C_nil _ _); (case side4 => exact Nat.le_refl _); rintro e w26 ⟨rfl, hb⟩; refine ⟨_, rfl, ?_⟩; have n0_ := aA (bB BK262.out hb); have n1_ := aA (below_step (mD1 GE262.out) hb); clear BK262 HB; have BK262 := n0_; have HB := n1_; clear n0_ n1_; (try clear hb); (try clear hb2); (try clear hk); (try clear hi); obtain ⟨hcz27_0, hcz27_1, hcz27_2, hcz27_3, hcz27_4, hcz27_5, hcz27_6, hcz27_7, hcz27_8, hcz27_9, hcz27_10⟩ := bC11 BK262.out; obtain ⟨hfz27_0, hfz27_1, hfz27_2, hfz27_3, hfz27_4, hfz27_5, hfz27_6, hfz27_7, hfz27_8, hfz27_9, hfz27_10⟩ := bF11 BK262.out) | ((with_reducible refine gate_callee (f := 54) rfl ?_); refine goesL_ (some 12) rfl rfl Try.func54 (by kernel_rfl) rfl #[.agg #[.int .i64 a0_8, .int .i64 a0_9, .slice A0_10 l0_10.length c0_10], .agg #[.int .i64 0, .int .i64 0, .slice none 0 0]] rfl mS ?_; (refine (foghornref12_Hushes.calls k a0_8 a0_9 _ _ l0_10 0 0 _ _ ([] : List (S35)) t264 _ ?side1 ?side2 ?side3 ?side4 A3.out).mono ?_); (case side1 => exact mC ((Kd.C_below HR0_10.out HB.out))); (case side2 => exact HC0_10.out); (case side3 => exact Kd.C_nil _ _); (case side4 => exact Nat.le_refl _); rintro e w28 ⟨rfl, hb⟩; refine ⟨_, rfl, ?_⟩; have n0_ := aA (bB BK262.out hb); have n1_ := aA (below_step (mD1 GE262.out) hb); clear BK262 HB; have BK262 := n0_; have HB := n1_; clear n0_ n1_; (try clear hb); (try clear hb2); (try clear hk); (try clear hi); obtain ⟨hcz29_0, hcz29_1, hcz29_2, hcz29_3, hcz29_4, hcz29_5, hcz29_6, hcz29_7, hcz29_8, hcz29_9, hcz29_10⟩ := bC11 BK262.out; obtain ⟨hfz29_0, hfz29_1, hfz29_2, hfz29_3, hfz29_4, hfz29_5, hfz29_6, hfz29_7, hfz29_8, hfz29_9, hfz29_10⟩ := bF11 BK262.out) | ((with_reducible refine gate_callee (f := 55) rfl ?_); refine goesL_ (some 18) rfl rfl Try.func55 (by kernel_rfl) rfl #[.agg #[.slice A0_1 l0_1.length c0_1, .int .i64 a0_2, .int .i64 a0_3, .int .i64 a0_4, .int .i64 a0_5, .int .i64 a0_6]] rfl mS ?_; (with_reducible refine (foghornref17_duty.calls _ _ l0_1 a0_2 a0_3 a0_4 a0_5 a0_6 false _ ?side1 ?side2 A5.out).mono ?_); (case side1 => exact mC ((Kd.C_below HR0_1.out HB.out))); (case side2 => exact HC0_1.out); rintro e w30 ⟨rfl, hb⟩; refine ⟨_, rfl, ?_⟩; have n0_ := aA (bB BK262.out hb); have n1_ := aA (below_step (mD1 GE262.out) hb); clear BK262 HB; have BK262 := n0_; have HB := n1_; clear n0_ n1_; (try clear hb); (try clear hb2); (try clear hk); (try clear hi)))
   go_ret
   exact ⟨by first | rfl | (simp [errW_none, errW_some] <;> rfl) | (simp [*, errW_none, errW_some] <;> rfl), by repeat (first | (with_reducible first | exact HB.out | apply below_alloc | apply pw_below_drewN | apply below_drew1 | refine below_set ?_ GE262.out) | exact HB.out)⟩
 ·rw [if_neg c4] at H
  have c4b0 : (a0_0 == 1) = false := beq_eq_false_iff_ne.mpr c4
  have c4b1 : (a0_0 != 1) = true := bne_iff_ne.mpr c4
  by_cases c31 : a0_0 = 2
  ·rw [if_pos c31] at H
   have c31b0 : (a0_0 == 2) = true := beq_iff_eq.mpr c31
   have c31b1 : (a0_0 != 2) = false := bne_eq_false_iff_eq.mpr c31
   clear c31
   replace H := Option.bind_eq_some_iff.mp H
   obtain ⟨t266, A320, H⟩ := H
   have A32 := aA A320
   clear A320
   by_cases c33 : t266 = true
   ·subst c33
    have H1 : (if t263 = true then (some t264) else (some false)) = some r := by rw [if_pos rfl] at H; exact H
    clear H
    have H := H1
    clear H1
    by_cases c34 : t263 = true
    ·subst c34
     have H1 : (some t264) = some r := by rw [if_pos rfl] at H; exact H
     clear H
     have H := H1
     clear H1
     obtain rfl := Option.some.inj H
     go_enter Try.func27, Try.ntmps27
     go_wp2_with (first | ((with_reducible refine gate_dst (N := 1) rfl ?_); (try (refine gate_guard (by rfl) ?_; dsimp only)); refine box_event ?hg (N := 1) ?hd (cs := #[.int .i64 a0_0, .slice A0_1 l0_1.length c0_1, .int .i64 a0_2, .int .i64 a0_3, .int .i64 a0_4, .int .i64 a0_5, .int .i64 a0_6, .slice A0_7 l0_7.length c0_7, .int .i64 a0_8, .int .i64 a0_9, .slice A0_10 l0_10.length c0_10]) (t := 50) ?hr ?_; (case hd => rfl); (case hg => rfl); (case hr => first | (go_simp; done) | (go_simp; rfl)); intro gb262 hg w35 hbox hb; have n0_ := aA (below_step mB hb); have n1_ := aA (hbox); have n2_ := aA ((bZ hg mB)); have n3_ := aA ((bZ hg mB)); clear HB; have HB := n0_; have BK262 := n1_; have GW262 := n2_; have GE262 := n3_; clear n0_ n1_ n2_ n3_ hb hbox hg; obtain ⟨hcz36_0, hcz36_1, hcz36_2, hcz36_3, hcz36_4, hcz36_5, hcz36_6, hcz36_7, hcz36_8, hcz36_9, hcz36_10⟩ := bC11 BK262.out; obtain ⟨hfz36_0, hfz36_1, hfz36_2, hfz36_3, hfz36_4, hfz36_5, hfz36_6, hfz36_7, hfz36_8, hfz36_9, hfz36_10⟩ := bF11 BK262.out) | ((with_reducible refine gate_callee (f := 53) rfl ?_); refine goesL_ (some 8) rfl rfl Try.func53 (by kernel_rfl) rfl #[.agg #[.slice A0_1 l0_1.length c0_1, .int .i64 a0_2, .int .i64 a0_3, .int .i64 a0_4, .int .i64 a0_5, .int .i64 a0_6], .agg #[.slice none 0 0, .int .i64 0, .int .i64 0, .int .i64 0, .int .i64 0, .int .i64 0]] rfl mS ?_; (refine (foghornref16_Same.calls _ _ l0_1 a0_2 a0_3 a0_4 a0_5 a0_6 _ _ ([] : List (S41)) 0 0 0 0 0 true _ ?side1 ?side2 ?side3 ?side4 A2.out).mono ?_); (case side1 => exact mC ((Kd.C_below HR0_1.out HB.out))); (case side2 => exact HC0_1.out); (case side3 => exact Kd.C_nil _ _); (case side4 => exact Nat.le_refl _); rintro e w37 ⟨rfl, hb⟩; refine ⟨_, rfl, ?_⟩; have n0_ := aA (bB BK262.out hb); have n1_ := aA (below_step (mD1 GE262.out) hb); clear BK262 HB; have BK262 := n0_; have HB := n1_; clear n0_ n1_; (try clear hb); (try clear hb2); (try clear hk); (try clear hi); obtain ⟨hcz38_0, hcz38_1, hcz38_2, hcz38_3, hcz38_4, hcz38_5, hcz38_6, hcz38_7, hcz38_8, hcz38_9, hcz38_10⟩ := bC11 BK262.out; obtain ⟨hfz38_0, hfz38_1, hfz38_2, hfz38_3, hfz38_4, hfz38_5, hfz38_6, hfz38_7, hfz38_8, hfz38_9, hfz38_10⟩ := bF11 BK262.out) | ((with_reducible refine gate_callee (f := 54) rfl ?_); refine goesL_ (some 12) rfl rfl Try.func54 (by kernel_rfl) rfl #[.agg #[.int .i64 a0_8, .int .i64 a0_9, .slice A0_10 l0_10.length c0_10], .agg #[.int .i64 0, .int .i64 0, .slice none 0 0]] rfl mS ?_; (refine (foghornref12_Hushes.calls k a0_8 a0_9 _ _ l0_10 0 0 _ _ ([] : List (S35)) t264 _ ?side1 ?side2 ?side3 ?side4 A3.out).mono ?_); (case side1 => exact mC ((Kd.C_below HR0_10.out HB.out))); (case side2 => exact HC0_10.out); (case side3 => exact Kd.C_nil _ _); (case side4 => exact Nat.le_refl _); rintro e w39 ⟨rfl, hb⟩; refine ⟨_, rfl, ?_⟩; have n0_ := aA (bB BK262.out hb); have n1_ := aA (below_step (mD1 GE262.out) hb); clear BK262 HB; have BK262 := n0_; have HB := n1_; clear n0_ n1_; (try clear hb); (try clear hb2); (try clear hk); (try clear hi); obtain ⟨hcz40_0, hcz40_1, hcz40_2, hcz40_3, hcz40_4, hcz40_5, hcz40_6, hcz40_7, hcz40_8, hcz40_9, hcz40_10⟩ := bC11 BK262.out; obtain ⟨hfz40_0, hfz40_1, hfz40_2, hfz40_3, hfz40_4, hfz40_5, hfz40_6, hfz40_7, hfz40_8, hfz40_9, hfz40_10⟩ := bF11 BK262.out) | ((with_reducible refine gate_callee (f := 16) rfl ?_); refine goesL_ (some 33) rfl rfl Try.func16 (by kernel_rfl) rfl #[.slice A0_7 l0_7.length c0_7] rfl mS ?_; (with_reducible refine (foghornref10_Right.calls _ _ l0_7 true _ ?side1 ?side2 A32.out).mono ?_); (case side1 => exact mC ((Kd.C_below HR0_7.out HB.out))); (case side2 => exact HC0_7.out); rintro e w41 ⟨rfl, hb⟩; refine ⟨_, rfl, ?_⟩; have n0_ := aA (bB BK262.out hb); have n1_ := aA (below_step (mD1 GE262.out) hb); clear BK262 HB; have BK262 := n0_; have HB := n1_; clear n0_ n1_; (try clear hb); (try clear hb2); (try clear hk); (try clear hi)))
     go_ret
     exact ⟨by first | rfl | (simp [errW_none, errW_some] <;> rfl) | (simp [*, errW_none, errW_some] <;> rfl), by repeat (first | (with_reducible first | exact HB.out | apply below_alloc | apply pw_below_drewN | apply below_drew1 | refine below_set ?_ GE262.out) | exact HB.out)⟩
    ·replace c34 := Bool.eq_false_iff.mpr c34
     subst c34
     have H1 : (some false) = some r := by rw [if_neg (show ¬ (false = true) by decide)] at H; exact H
     clear H
     have H := H1
     clear H1
     obtain rfl := Option.some.inj H
     go_enter Try.func27, Try.ntmps27
     go_wp2_with (first | ((with_reducible refine gate_dst (N := 1) rfl ?_); (try (refine gate_guard (by rfl) ?_; dsimp only)); refine box_event ?hg (N := 1) ?hd (cs := #[.int .i64 a0_0, .slice A0_1 l0_1.length c0_1, .int .i64 a0_2, .int .i64 a0_3, .int .i64 a0_4, .int .i64 a0_5, .int .i64 a0_6, .slice A0_7 l0_7.length c0_7, .int .i64 a0_8, .int .i64 a0_9, .slice A0_10 l0_10.length c0_10]) (t := 50) ?hr ?_; (case hd => rfl); (case hg => rfl); (case hr => first | (go_simp; done) | (go_simp; rfl)); intro gb262 hg w42 hbox hb; have n0_ := aA (below_step mB hb); have n1_ := aA (hbox); have n2_ := aA ((bZ hg mB)); have n3_ := aA ((bZ hg mB)); clear HB; have HB := n0_; have BK262 := n1_; have GW262 := n2_; have GE262 := n3_; clear n0_ n1_ n2_ n3_ hb hbox hg; obtain ⟨hcz43_0, hcz43_1, hcz43_2, hcz43_3, hcz43_4, hcz43_5, hcz43_6, hcz43_7, hcz43_8, hcz43_9, hcz43_10⟩ := bC11 BK262.out; obtain ⟨hfz43_0, hfz43_1, hfz43_2, hfz43_3, hfz43_4, hfz43_5, hfz43_6, hfz43_7, hfz43_8, hfz43_9, hfz43_10⟩ := bF11 BK262.out) | ((with_reducible refine gate_callee (f := 53) rfl ?_); refine goesL_ (some 8) rfl rfl Try.func53 (by kernel_rfl) rfl #[.agg #[.slice A0_1 l0_1.length c0_1, .int .i64 a0_2, .int .i64 a0_3, .int .i64 a0_4, .int .i64 a0_5, .int .i64 a0_6], .agg #[.slice none 0 0, .int .i64 0, .int .i64 0, .int .i64 0, .int .i64 0, .int .i64 0]] rfl mS ?_; (refine (foghornref16_Same.calls _ _ l0_1 a0_2 a0_3 a0_4 a0_5 a0_6 _ _ ([] : List (S41)) 0 0 0 0 0 false _ ?side1 ?side2 ?side3 ?side4 A2.out).mono ?_); (case side1 => exact mC ((Kd.C_below HR0_1.out HB.out))); (case side2 => exact HC0_1.out); (case side3 => exact Kd.C_nil _ _); (case side4 => exact Nat.le_refl _); rintro e w44 ⟨rfl, hb⟩; refine ⟨_, rfl, ?_⟩; have n0_ := aA (bB BK262.out hb); have n1_ := aA (below_step (mD1 GE262.out) hb); clear BK262 HB; have BK262 := n0_; have HB := n1_; clear n0_ n1_; (try clear hb); (try clear hb2); (try clear hk); (try clear hi); obtain ⟨hcz45_0, hcz45_1, hcz45_2, hcz45_3, hcz45_4, hcz45_5, hcz45_6, hcz45_7, hcz45_8, hcz45_9, hcz45_10⟩ := bC11 BK262.out; obtain ⟨hfz45_0, hfz45_1, hfz45_2, hfz45_3, hfz45_4, hfz45_5, hfz45_6, hfz45_7, hfz45_8, hfz45_9, hfz45_10⟩ := bF11 BK262.out) | ((with_reducible refine gate_callee (f := 54) rfl ?_); refine goesL_ (some 12) rfl rfl Try.func54 (by kernel_rfl) rfl #[.agg #[.int .i64 a0_8, .int .i64 a0_9, .slice A0_10 l0_10.length c0_10], .agg #[.int .i64 0, .int .i64 0, .slice none 0 0]] rfl mS ?_; (refine (foghornref12_Hushes.calls k a0_8 a0_9 _ _ l0_10 0 0 _ _ ([] : List (S35)) t264 _ ?side1 ?side2 ?side3 ?side4 A3.out).mono ?_); (case side1 => exact mC ((Kd.C_below HR0_10.out HB.out))); (case side2 => exact HC0_10.out); (case side3 => exact Kd.C_nil _ _); (case side4 => exact Nat.le_refl _); rintro e w46 ⟨rfl, hb⟩; refine ⟨_, rfl, ?_⟩; have n0_ := aA (bB BK262.out hb); have n1_ := aA (below_step (mD1 GE262.out) hb); clear BK262 HB; have BK262 := n0_; have HB := n1_; clear n0_ n1_; (try clear hb); (try clear hb2); (try clear hk); (try clear hi); obtain ⟨hcz47_0, hcz47_1, hcz47_2, hcz47_3, hcz47_4, hcz47_5, hcz47_6, hcz47_7, hcz47_8, hcz47_9, hcz47_10⟩ := bC11 BK262.out; obtain ⟨hfz47_0, hfz47_1, hfz47_2, hfz47_3, hfz47_4, hfz47_5, hfz47_6, hfz47_7, hfz47_8, hfz47_9, hfz47_10⟩ := bF11 BK262.out) | ((with_reducible refine gate_callee (f := 16) rfl ?_); refine goesL_ (some 33) rfl rfl Try.func16 (by kernel_rfl) rfl #[.slice A0_7 l0_7.length c0_7] rfl mS ?_; (with_reducible refine (foghornref10_Right.calls _ _ l0_7 true _ ?side1 ?side2 A32.out).mono ?_); (case side1 => exact mC ((Kd.C_below HR0_7.out HB.out))); (case side2 => exact HC0_7.out); rintro e w48 ⟨rfl, hb⟩; refine ⟨_, rfl, ?_⟩; have n0_ := aA (bB BK262.out hb); have n1_ := aA (below_step (mD1 GE262.out) hb); clear BK262 HB; have BK262 := n0_; have HB := n1_; clear n0_ n1_; (try clear hb); (try clear hb2); (try clear hk); (try clear hi)))
     go_ret
     exact ⟨by first | rfl | (simp [errW_none, errW_some] <;> rfl) | (simp [*, errW_none, errW_some] <;> rfl), by repeat (first | (with_reducible first | exact HB.out | apply below_alloc | apply pw_below_drewN | apply below_drew1 | refine below_set ?_ GE262.out) | exact HB.out)⟩
   ·replace c33 := Bool.eq_false_iff.mpr c33
    subst c33
    have H1 : (some false) = some r := by rw [if_neg (show ¬ (false = true) by decide)] at H; exact H
    clear H
    have H := H1
    clear H1
    obtain rfl := Option.some.inj H
    go_enter Try.func27, Try.ntmps27
    go_wp2_with (first | ((with_reducible refine gate_dst (N := 1) rfl ?_); (try (refine gate_guard (by rfl) ?_; dsimp only)); refine box_event ?hg (N := 1) ?hd (cs := #[.int .i64 a0_0, .slice A0_1 l0_1.length c0_1, .int .i64 a0_2, .int .i64 a0_3, .int .i64 a0_4, .int .i64 a0_5, .int .i64 a0_6, .slice A0_7 l0_7.length c0_7, .int .i64 a0_8, .int .i64 a0_9, .slice A0_10 l0_10.length c0_10]) (t := 50) ?hr ?_; (case hd => rfl); (case hg => rfl); (case hr => first | (go_simp; done) | (go_simp; rfl)); intro gb262 hg w49 hbox hb; have n0_ := aA (below_step mB hb); have n1_ := aA (hbox); have n2_ := aA ((bZ hg mB)); have n3_ := aA ((bZ hg mB)); clear HB; have HB := n0_; have BK262 := n1_; have GW262 := n2_; have GE262 := n3_; clear n0_ n1_ n2_ n3_ hb hbox hg; obtain ⟨hcz50_0, hcz50_1, hcz50_2, hcz50_3, hcz50_4, hcz50_5, hcz50_6, hcz50_7, hcz50_8, hcz50_9, hcz50_10⟩ := bC11 BK262.out; obtain ⟨hfz50_0, hfz50_1, hfz50_2, hfz50_3, hfz50_4, hfz50_5, hfz50_6, hfz50_7, hfz50_8, hfz50_9, hfz50_10⟩ := bF11 BK262.out) | ((with_reducible refine gate_callee (f := 53) rfl ?_); refine goesL_ (some 8) rfl rfl Try.func53 (by kernel_rfl) rfl #[.agg #[.slice A0_1 l0_1.length c0_1, .int .i64 a0_2, .int .i64 a0_3, .int .i64 a0_4, .int .i64 a0_5, .int .i64 a0_6], .agg #[.slice none 0 0, .int .i64 0, .int .i64 0, .int .i64 0, .int .i64 0, .int .i64 0]] rfl mS ?_; (refine (foghornref16_Same.calls _ _ l0_1 a0_2 a0_3 a0_4 a0_5 a0_6 _ _ ([] : List (S41)) 0 0 0 0 0 t263 _ ?side1 ?side2 ?side3 ?side4 A2.out).mono ?_); (case side1 => exact mC ((Kd.C_below HR0_1.out HB.out))); (case side2 => exact HC0_1.out); (case side3 => exact Kd.C_nil _ _); (case side4 => exact Nat.le_refl _); rintro e w51 ⟨rfl, hb⟩; refine ⟨_, rfl, ?_⟩; have n0_ := aA (bB BK262.out hb); have n1_ := aA (below_step (mD1 GE262.out) hb); clear BK262 HB; have BK262 := n0_; have HB := n1_; clear n0_ n1_; (try clear hb); (try clear hb2); (try clear hk); (try clear hi); obtain ⟨hcz52_0, hcz52_1, hcz52_2, hcz52_3, hcz52_4, hcz52_5, hcz52_6, hcz52_7, hcz52_8, hcz52_9, hcz52_10⟩ := bC11 BK262.out; obtain ⟨hfz52_0, hfz52_1, hfz52_2, hfz52_3, hfz52_4, hfz52_5, hfz52_6, hfz52_7, hfz52_8, hfz52_9, hfz52_10⟩ := bF11 BK262.out) | ((with_reducible refine gate_callee (f := 54) rfl ?_); refine goesL_ (some 12) rfl rfl Try.func54 (by kernel_rfl) rfl #[.agg #[.int .i64 a0_8, .int .i64 a0_9, .slice A0_10 l0_10.length c0_10], .agg #[.int .i64 0, .int .i64 0, .slice none 0 0]] rfl mS ?_; (refine (foghornref12_Hushes.calls k a0_8 a0_9 _ _ l0_10 0 0 _ _ ([] : List (S35)) t264 _ ?side1 ?side2 ?side3 ?side4 A3.out).mono ?_); (case side1 => exact mC ((Kd.C_below HR0_10.out HB.out))); (case side2 => exact HC0_10.out); (case side3 => exact Kd.C_nil _ _); (case side4 => exact Nat.le_refl _); rintro e w53 ⟨rfl, hb⟩; refine ⟨_, rfl, ?_⟩; have n0_ := aA (bB BK262.out hb); have n1_ := aA (below_step (mD1 GE262.out) hb); clear BK262 HB; have BK262 := n0_; have HB := n1_; clear n0_ n1_; (try clear hb); (try clear hb2); (try clear hk); (try clear hi); obtain ⟨hcz54_0, hcz54_1, hcz54_2, hcz54_3, hcz54_4, hcz54_5, hcz54_6, hcz54_7, hcz54_8, hcz54_9, hcz54_10⟩ := bC11 BK262.out; obtain ⟨hfz54_0, hfz54_1, hfz54_2, hfz54_3, hfz54_4, hfz54_5, hfz54_6, hfz54_7, hfz54_8, hfz54_9, hfz54_10⟩ := bF11 BK262.out) | ((with_reducible refine gate_callee (f := 16) rfl ?_); refine goesL_ (some 33) rfl rfl Try.func16 (by kernel_rfl) rfl #[.slice A0_7 l0_7.length c0_7] rfl mS ?_; (with_reducible refine (foghornref10_Right.calls _ _ l0_7 false _ ?side1 ?side2 A32.out).mono ?_); (case side1 => exact mC ((Kd.C_below HR0_7.out HB.out))); (case side2 => exact HC0_7.out); rintro e w55 ⟨rfl, hb⟩; refine ⟨_, rfl, ?_⟩; have n0_ := aA (bB BK262.out hb); have n1_ := aA (below_step (mD1 GE262.out) hb); clear BK262 HB; have BK262 := n0_; have HB := n1_; clear n0_ n1_; (try clear hb); (try clear hb2); (try clear hk); (try clear hi)))
    go_ret
    exact ⟨by first | rfl | (simp [errW_none, errW_some] <;> rfl) | (simp [*, errW_none, errW_some] <;> rfl), by repeat (first | (with_reducible first | exact HB.out | apply below_alloc | apply pw_below_drewN | apply below_drew1 | refine below_set ?_ GE262.out) | exact HB.out)⟩
  ·rw [if_neg c31] at H
   have c31b0 : (a0_0 == 2) = false := beq_eq_false_iff_ne.mpr c31
   have c31b1 : (a0_0 != 2) = true := bne_iff_ne.mpr c31
   by_cases c56 : a0_0 = 3
   ·rw [if_pos c56] at H
    have c56b0 : (a0_0 == 3) = true := beq_iff_eq.mpr c56
    have c56b1 : (a0_0 != 3) = false := bne_eq_false_iff_eq.mpr c56
    clear c56
    replace H := Option.bind_eq_some_iff.mp H
    obtain ⟨t267, A570, H⟩ := H
    have A57 := aA A570
    clear A570
    by_cases c58 : t267 = true
    ·subst c58
     have H1 : (if t263 = true then (some ((l0_7.length : Int) == 0)) else (some false)) = some r := by rw [if_pos rfl] at H; exact H
     clear H
     have H := H1
     clear H1
     by_cases c59 : t263 = true
     ·subst c59
      have H1 : (some ((l0_7.length : Int) == 0)) = some r := by rw [if_pos rfl] at H; exact H
      clear H
      have H := H1
      clear H1
      obtain rfl := Option.some.inj H
      go_enter Try.func27, Try.ntmps27
      go_wp2_with (first | ((with_reducible refine gate_dst (N := 1) rfl ?_); (try (refine gate_guard (by rfl) ?_; dsimp only)); refine box_event ?hg (N := 1) ?hd (cs := #[.int .i64 a0_0, .slice A0_1 l0_1.length c0_1, .int .i64 a0_2, .int .i64 a0_3, .int .i64 a0_4, .int .i64 a0_5, .int .i64 a0_6, .slice A0_7 l0_7.length c0_7, .int .i64 a0_8, .int .i64 a0_9, .slice A0_10 l0_10.length c0_10]) (t := 50) ?hr ?_; (case hd => rfl); (case hg => rfl); (case hr => first | (go_simp; done) | (go_simp; rfl)); intro gb262 hg w60 hbox hb; have n0_ := aA (below_step mB hb); have n1_ := aA (hbox); have n2_ := aA ((bZ hg mB)); have n3_ := aA ((bZ hg mB)); clear HB; have HB := n0_; have BK262 := n1_; have GW262 := n2_; have GE262 := n3_; clear n0_ n1_ n2_ n3_ hb hbox hg; obtain ⟨hcz61_0, hcz61_1, hcz61_2, hcz61_3, hcz61_4, hcz61_5, hcz61_6, hcz61_7, hcz61_8, hcz61_9, hcz61_10⟩ := bC11 BK262.out; obtain ⟨hfz61_0, hfz61_1, hfz61_2, hfz61_3, hfz61_4, hfz61_5, hfz61_6, hfz61_7, hfz61_8, hfz61_9, hfz61_10⟩ := bF11 BK262.out) | ((with_reducible refine gate_callee (f := 53) rfl ?_); refine goesL_ (some 8) rfl rfl Try.func53 (by kernel_rfl) rfl #[.agg #[.slice A0_1 l0_1.length c0_1, .int .i64 a0_2, .int .i64 a0_3, .int .i64 a0_4, .int .i64 a0_5, .int .i64 a0_6], .agg #[.slice none 0 0, .int .i64 0, .int .i64 0, .int .i64 0, .int .i64 0, .int .i64 0]] rfl mS ?_; (refine (foghornref16_Same.calls _ _ l0_1 a0_2 a0_3 a0_4 a0_5 a0_6 _ _ ([] : List (S41)) 0 0 0 0 0 true _ ?side1 ?side2 ?side3 ?side4 A2.out).mono ?_); (case side1 => exact mC ((Kd.C_below HR0_1.out HB.out))); (case side2 => exact HC0_1.out); (case side3 => exact Kd.C_nil _ _); (case side4 => exact Nat.le_refl _); rintro e w62 ⟨rfl, hb⟩; refine ⟨_, rfl, ?_⟩; have n0_ := aA (bB BK262.out hb); have n1_ := aA (below_step (mD1 GE262.out) hb); clear BK262 HB; have BK262 := n0_; have HB := n1_; clear n0_ n1_; (try clear hb); (try clear hb2); (try clear hk); (try clear hi); obtain ⟨hcz63_0, hcz63_1, hcz63_2, hcz63_3, hcz63_4, hcz63_5, hcz63_6, hcz63_7, hcz63_8, hcz63_9, hcz63_10⟩ := bC11 BK262.out; obtain ⟨hfz63_0, hfz63_1, hfz63_2, hfz63_3, hfz63_4, hfz63_5, hfz63_6, hfz63_7, hfz63_8, hfz63_9, hfz63_10⟩ := bF11 BK262.out) | ((with_reducible refine gate_callee (f := 54) rfl ?_); refine goesL_ (some 12) rfl rfl Try.func54 (by kernel_rfl) rfl #[.agg #[.int .i64 a0_8, .int .i64 a0_9, .slice A0_10 l0_10.length c0_10], .agg #[.int .i64 0, .int .i64 0, .slice none 0 0]] rfl mS ?_; (refine (foghornref12_Hushes.calls k a0_8 a0_9 _ _ l0_10 0 0 _ _ ([] : List (S35)) t264 _ ?side1 ?side2 ?side3 ?side4 A3.out).mono ?_); (case side1 => exact mC ((Kd.C_below HR0_10.out HB.out))); (case side2 => exact HC0_10.out); (case side3 => exact Kd.C_nil _ _); (case side4 => exact Nat.le_refl _); rintro e w64 ⟨rfl, hb⟩; refine ⟨_, rfl, ?_⟩; have n0_ := aA (bB BK262.out hb); have n1_ := aA (below_step (mD1 GE262.out) hb); clear BK262 HB; have BK262 := n0_; have HB := n1_; clear n0_ n1_; (try clear hb); (try clear hb2); (try clear hk); (try clear hi); obtain ⟨hcz65_0, hcz65_1, hcz65_2, hcz65_3, hcz65_4, hcz65_5, hcz65_6, hcz65_7, hcz65_8, hcz65_9, hcz65_10⟩ := bC11 BK262.out; obtain ⟨hfz65_0, hfz65_1, hfz65_2, hfz65_3, hfz65_4, hfz65_5, hfz65_6, hfz65_7, hfz65_8, hfz65_9, hfz65_10⟩ := bF11 BK262.out) | (go_at_call 56; (with_reducible refine (foghornref12_Hush.calls a0_8 a0_9 _ _ l0_10 true _ ?side1 ?side2 A57.out).mono ?_); (case side1 => exact mC ((Kd.C_below HR0_10.out HB.out))); (case side2 => exact HC0_10.out); rintro e w66 ⟨rfl, hb⟩; have n0_ := aA (bB BK262.out hb); have n1_ := aA (below_step (mD1 GE262.out) hb); clear BK262 HB; have BK262 := n0_; have HB := n1_; clear n0_ n1_; (try clear hb); (try clear hb2); (try clear hk); (try clear hi); obtain ⟨hcz67_0, hcz67_1, hcz67_2, hcz67_3, hcz67_4, hcz67_5, hcz67_6, hcz67_7, hcz67_8, hcz67_9, hcz67_10⟩ := bC11 BK262.out; obtain ⟨hfz67_0, hfz67_1, hfz67_2, hfz67_3, hfz67_4, hfz67_5, hfz67_6, hfz67_7, hfz67_8, hfz67_9, hfz67_10⟩ := bF11 BK262.out))
      go_ret
      exact ⟨by first | rfl | (simp [errW_none, errW_some] <;> rfl) | (simp [*, errW_none, errW_some] <;> rfl), by repeat (first | (with_reducible first | exact HB.out | apply below_alloc | apply pw_below_drewN | apply below_drew1 | refine below_set ?_ GE262.out) | exact HB.out)⟩
     ·replace c59 := Bool.eq_false_iff.mpr c59
      subst c59
      have H1 : (some false) = some r := by rw [if_neg (show ¬ (false = true) by decide)] at H; exact H
      clear H
      have H := H1
      clear H1
      obtain rfl := Option.some.inj H
      go_enter Try.func27, Try.ntmps27
      go_wp2_with (first | ((with_reducible refine gate_dst (N := 1) rfl ?_); (try (refine gate_guard (by rfl) ?_; dsimp only)); refine box_event ?hg (N := 1) ?hd (cs := #[.int .i64 a0_0, .slice A0_1 l0_1.length c0_1, .int .i64 a0_2, .int .i64 a0_3, .int .i64 a0_4, .int .i64 a0_5, .int .i64 a0_6, .slice A0_7 l0_7.length c0_7, .int .i64 a0_8, .int .i64 a0_9, .slice A0_10 l0_10.length c0_10]) (t := 50) ?hr ?_; (case hd => rfl); (case hg => rfl); (case hr => first | (go_simp; done) | (go_simp; rfl)); intro gb262 hg w68 hbox hb; have n0_ := aA (below_step mB hb); have n1_ := aA (hbox); have n2_ := aA ((bZ hg mB)); have n3_ := aA ((bZ hg mB)); clear HB; have HB := n0_; have BK262 := n1_; have GW262 := n2_; have GE262 := n3_; clear n0_ n1_ n2_ n3_ hb hbox hg; obtain ⟨hcz69_0, hcz69_1, hcz69_2, hcz69_3, hcz69_4, hcz69_5, hcz69_6, hcz69_7, hcz69_8, hcz69_9, hcz69_10⟩ := bC11 BK262.out; obtain ⟨hfz69_0, hfz69_1, hfz69_2, hfz69_3, hfz69_4, hfz69_5, hfz69_6, hfz69_7, hfz69_8, hfz69_9, hfz69_10⟩ := bF11 BK262.out) | ((with_reducible refine gate_callee (f := 53) rfl ?_); refine goesL_ (some 8) rfl rfl Try.func53 (by kernel_rfl) rfl #[.agg #[.slice A0_1 l0_1.length c0_1, .int .i64 a0_2, .int .i64 a0_3, .int .i64 a0_4, .int .i64 a0_5, .int .i64 a0_6], .agg #[.slice none 0 0, .int .i64 0, .int .i64 0, .int .i64 0, .int .i64 0, .int .i64 0]] rfl mS ?_; (refine (foghornref16_Same.calls _ _ l0_1 a0_2 a0_3 a0_4 a0_5 a0_6 _ _ ([] : List (S41)) 0 0 0 0 0 false _ ?side1 ?side2 ?side3 ?side4 A2.out).mono ?_); (case side1 => exact mC ((Kd.C_below HR0_1.out HB.out))); (case side2 => exact HC0_1.out); (case side3 => exact Kd.C_nil _ _); (case side4 => exact Nat.le_refl _); rintro e w70 ⟨rfl, hb⟩; refine ⟨_, rfl, ?_⟩; have n0_ := aA (bB BK262.out hb); have n1_ := aA (below_step (mD1 GE262.out) hb); clear BK262 HB; have BK262 := n0_; have HB := n1_; clear n0_ n1_; (try clear hb); (try clear hb2); (try clear hk); (try clear hi); obtain ⟨hcz71_0, hcz71_1, hcz71_2, hcz71_3, hcz71_4, hcz71_5, hcz71_6, hcz71_7, hcz71_8, hcz71_9, hcz71_10⟩ := bC11 BK262.out; obtain ⟨hfz71_0, hfz71_1, hfz71_2, hfz71_3, hfz71_4, hfz71_5, hfz71_6, hfz71_7, hfz71_8, hfz71_9, hfz71_10⟩ := bF11 BK262.out) | ((with_reducible refine gate_callee (f := 54) rfl ?_); refine goesL_ (some 12) rfl rfl Try.func54 (by kernel_rfl) rfl #[.agg #[.int .i64 a0_8, .int .i64 a0_9, .slice A0_10 l0_10.length c0_10], .agg #[.int .i64 0, .int .i64 0, .slice none 0 0]] rfl mS ?_; (refine (foghornref12_Hushes.calls k a0_8 a0_9 _ _ l0_10 0 0 _ _ ([] : List (S35)) t264 _ ?side1 ?side2 ?side3 ?side4 A3.out).mono ?_); (case side1 => exact mC ((Kd.C_below HR0_10.out HB.out))); (case side2 => exact HC0_10.out); (case side3 => exact Kd.C_nil _ _); (case side4 => exact Nat.le_refl _); rintro e w72 ⟨rfl, hb⟩; refine ⟨_, rfl, ?_⟩; have n0_ := aA (bB BK262.out hb); have n1_ := aA (below_step (mD1 GE262.out) hb); clear BK262 HB; have BK262 := n0_; have HB := n1_; clear n0_ n1_; (try clear hb); (try clear hb2); (try clear hk); (try clear hi); obtain ⟨hcz73_0, hcz73_1, hcz73_2, hcz73_3, hcz73_4, hcz73_5, hcz73_6, hcz73_7, hcz73_8, hcz73_9, hcz73_10⟩ := bC11 BK262.out; obtain ⟨hfz73_0, hfz73_1, hfz73_2, hfz73_3, hfz73_4, hfz73_5, hfz73_6, hfz73_7, hfz73_8, hfz73_9, hfz73_10⟩ := bF11 BK262.out) | (go_at_call 56; (with_reducible refine (foghornref12_Hush.calls a0_8 a0_9 _ _ l0_10 true _ ?side1 ?side2 A57.out).mono ?_); (case side1 => exact mC ((Kd.C_below HR0_10.out HB.out))); (case side2 => exact HC0_10.out); rintro e w74 ⟨rfl, hb⟩; have n0_ := aA (bB BK262.out hb); have n1_ := aA (below_step (mD1 GE262.out) hb); clear BK262 HB; have BK262 := n0_; have HB := n1_; clear n0_ n1_; (try clear hb); (try clear hb2); (try clear hk); (try clear hi)))
      go_ret
      exact ⟨by first | rfl | (simp [errW_none, errW_some] <;> rfl) | (simp [*, errW_none, errW_some] <;> rfl), by repeat (first | (with_reducible first | exact HB.out | apply below_alloc | apply pw_below_drewN | apply below_drew1 | refine below_set ?_ GE262.out) | exact HB.out)⟩
    ·replace c58 := Bool.eq_false_iff.mpr c58
     subst c58
     have H1 : (some false) = some r := by rw [if_neg (show ¬ (false = true) by decide)] at H; exact H
     clear H
     have H := H1
     clear H1
     obtain rfl := Option.some.inj H
     go_enter Try.func27, Try.ntmps27
     go_wp2_with (first | ((with_reducible refine gate_dst (N := 1) rfl ?_); (try (refine gate_guard (by rfl) ?_; dsimp only)); refine box_event ?hg (N := 1) ?hd (cs := #[.int .i64 a0_0, .slice A0_1 l0_1.length c0_1, .int .i64 a0_2, .int .i64 a0_3, .int .i64 a0_4, .int .i64 a0_5, .int .i64 a0_6, .slice A0_7 l0_7.length c0_7, .int .i64 a0_8, .int .i64 a0_9, .slice A0_10 l0_10.length c0_10]) (t := 50) ?hr ?_; (case hd => rfl); (case hg => rfl); (case hr => first | (go_simp; done) | (go_simp; rfl)); intro gb262 hg w75 hbox hb; have n0_ := aA (below_step mB hb); have n1_ := aA (hbox); have n2_ := aA ((bZ hg mB)); have n3_ := aA ((bZ hg mB)); clear HB; have HB := n0_; have BK262 := n1_; have GW262 := n2_; have GE262 := n3_; clear n0_ n1_ n2_ n3_ hb hbox hg; obtain ⟨hcz76_0, hcz76_1, hcz76_2, hcz76_3, hcz76_4, hcz76_5, hcz76_6, hcz76_7, hcz76_8, hcz76_9, hcz76_10⟩ := bC11 BK262.out; obtain ⟨hfz76_0, hfz76_1, hfz76_2, hfz76_3, hfz76_4, hfz76_5, hfz76_6, hfz76_7, hfz76_8, hfz76_9, hfz76_10⟩ := bF11 BK262.out) | ((with_reducible refine gate_callee (f := 53) rfl ?_); refine goesL_ (some 8) rfl rfl Try.func53 (by kernel_rfl) rfl #[.agg #[.slice A0_1 l0_1.length c0_1, .int .i64 a0_2, .int .i64 a0_3, .int .i64 a0_4, .int .i64 a0_5, .int .i64 a0_6], .agg #[.slice none 0 0, .int .i64 0, .int .i64 0, .int .i64 0, .int .i64 0, .int .i64 0]] rfl mS ?_; (refine (foghornref16_Same.calls _ _ l0_1 a0_2 a0_3 a0_4 a0_5 a0_6 _ _ ([] : List (S41)) 0 0 0 0 0 t263 _ ?side1 ?side2 ?side3 ?side4 A2.out).mono ?_); (case side1 => exact mC ((Kd.C_below HR0_1.out HB.out))); (case side2 => exact HC0_1.out); (case side3 => exact Kd.C_nil _ _); (case side4 => exact Nat.le_refl _); rintro e w77 ⟨rfl, hb⟩; refine ⟨_, rfl, ?_⟩; have n0_ := aA (bB BK262.out hb); have n1_ := aA (below_step (mD1 GE262.out) hb); clear BK262 HB; have BK262 := n0_; have HB := n1_; clear n0_ n1_; (try clear hb); (try clear hb2); (try clear hk); (try clear hi); obtain ⟨hcz78_0, hcz78_1, hcz78_2, hcz78_3, hcz78_4, hcz78_5, hcz78_6, hcz78_7, hcz78_8, hcz78_9, hcz78_10⟩ := bC11 BK262.out; obtain ⟨hfz78_0, hfz78_1, hfz78_2, hfz78_3, hfz78_4, hfz78_5, hfz78_6, hfz78_7, hfz78_8, hfz78_9, hfz78_10⟩ := bF11 BK262.out) | ((with_reducible refine gate_callee (f := 54) rfl ?_); refine goesL_ (some 12) rfl rfl Try.func54 (by kernel_rfl) rfl #[.agg #[.int .i64 a0_8, .int .i64 a0_9, .slice A0_10 l0_10.length c0_10], .agg #[.int .i64 0, .int .i64 0, .slice none 0 0]] rfl mS ?_; (refine (foghornref12_Hushes.calls k a0_8 a0_9 _ _ l0_10 0 0 _ _ ([] : List (S35)) t264 _ ?side1 ?side2 ?side3 ?side4 A3.out).mono ?_); (case side1 => exact mC ((Kd.C_below HR0_10.out HB.out))); (case side2 => exact HC0_10.out); (case side3 => exact Kd.C_nil _ _); (case side4 => exact Nat.le_refl _); rintro e w79 ⟨rfl, hb⟩; refine ⟨_, rfl, ?_⟩; have n0_ := aA (bB BK262.out hb); have n1_ := aA (below_step (mD1 GE262.out) hb); clear BK262 HB; have BK262 := n0_; have HB := n1_; clear n0_ n1_; (try clear hb); (try clear hb2); (try clear hk); (try clear hi); obtain ⟨hcz80_0, hcz80_1, hcz80_2, hcz80_3, hcz80_4, hcz80_5, hcz80_6, hcz80_7, hcz80_8, hcz80_9, hcz80_10⟩ := bC11 BK262.out; obtain ⟨hfz80_0, hfz80_1, hfz80_2, hfz80_3, hfz80_4, hfz80_5, hfz80_6, hfz80_7, hfz80_8, hfz80_9, hfz80_10⟩ := bF11 BK262.out) | (go_at_call 56; (with_reducible refine (foghornref12_Hush.calls a0_8 a0_9 _ _ l0_10 false _ ?side1 ?side2 A57.out).mono ?_); (case side1 => exact mC ((Kd.C_below HR0_10.out HB.out))); (case side2 => exact HC0_10.out); rintro e w81 ⟨rfl, hb⟩; have n0_ := aA (bB BK262.out hb); have n1_ := aA (below_step (mD1 GE262.out) hb); clear BK262 HB; have BK262 := n0_; have HB := n1_; clear n0_ n1_; (try clear hb); (try clear hb2); (try clear hk); (try clear hi)))
     go_ret
     exact ⟨by first | rfl | (simp [errW_none, errW_some] <;> rfl) | (simp [*, errW_none, errW_some] <;> rfl), by repeat (first | (with_reducible first | exact HB.out | apply below_alloc | apply pw_below_drewN | apply below_drew1 | refine below_set ?_ GE262.out) | exact HB.out)⟩
   ·rw [if_neg c56] at H
    have c56b0 : (a0_0 == 3) = false := beq_eq_false_iff_ne.mpr c56
    have c56b1 : (a0_0 != 3) = true := bne_iff_ne.mpr c56
    obtain rfl := Option.some.inj H
    go_enter Try.func27, Try.ntmps27
    go_wp2_with (first | ((with_reducible refine gate_dst (N := 1) rfl ?_); (try (refine gate_guard (by rfl) ?_; dsimp only)); refine box_event ?hg (N := 1) ?hd (cs := #[.int .i64 a0_0, .slice A0_1 l0_1.length c0_1, .int .i64 a0_2, .int .i64 a0_3, .int .i64 a0_4, .int .i64 a0_5, .int .i64 a0_6, .slice A0_7 l0_7.length c0_7, .int .i64 a0_8, .int .i64 a0_9, .slice A0_10 l0_10.length c0_10]) (t := 50) ?hr ?_; (case hd => rfl); (case hg => rfl); (case hr => first | (go_simp; done) | (go_simp; rfl)); intro gb262 hg w82 hbox hb; have n0_ := aA (below_step mB hb); have n1_ := aA (hbox); have n2_ := aA ((bZ hg mB)); have n3_ := aA ((bZ hg mB)); clear HB; have HB := n0_; have BK262 := n1_; have GW262 := n2_; have GE262 := n3_; clear n0_ n1_ n2_ n3_ hb hbox hg; obtain ⟨hcz83_0, hcz83_1, hcz83_2, hcz83_3, hcz83_4, hcz83_5, hcz83_6, hcz83_7, hcz83_8, hcz83_9, hcz83_10⟩ := bC11 BK262.out; obtain ⟨hfz83_0, hfz83_1, hfz83_2, hfz83_3, hfz83_4, hfz83_5, hfz83_6, hfz83_7, hfz83_8, hfz83_9, hfz83_10⟩ := bF11 BK262.out) | ((with_reducible refine gate_callee (f := 53) rfl ?_); refine goesL_ (some 8) rfl rfl Try.func53 (by kernel_rfl) rfl #[.agg #[.slice A0_1 l0_1.length c0_1, .int .i64 a0_2, .int .i64 a0_3, .int .i64 a0_4, .int .i64 a0_5, .int .i64 a0_6], .agg #[.slice none 0 0, .int .i64 0, .int .i64 0, .int .i64 0, .int .i64 0, .int .i64 0]] rfl mS ?_; (refine (foghornref16_Same.calls _ _ l0_1 a0_2 a0_3 a0_4 a0_5 a0_6 _ _ ([] : List (S41)) 0 0 0 0 0 t263 _ ?side1 ?side2 ?side3 ?side4 A2.out).mono ?_); (case side1 => exact mC ((Kd.C_below HR0_1.out HB.out))); (case side2 => exact HC0_1.out); (case side3 => exact Kd.C_nil _ _); (case side4 => exact Nat.le_refl _); rintro e w84 ⟨rfl, hb⟩; refine ⟨_, rfl, ?_⟩; have n0_ := aA (bB BK262.out hb); have n1_ := aA (below_step (mD1 GE262.out) hb); clear BK262 HB; have BK262 := n0_; have HB := n1_; clear n0_ n1_; (try clear hb); (try clear hb2); (try clear hk); (try clear hi); obtain ⟨hcz85_0, hcz85_1, hcz85_2, hcz85_3, hcz85_4, hcz85_5, hcz85_6, hcz85_7, hcz85_8, hcz85_9, hcz85_10⟩ := bC11 BK262.out; obtain ⟨hfz85_0, hfz85_1, hfz85_2, hfz85_3, hfz85_4, hfz85_5, hfz85_6, hfz85_7, hfz85_8, hfz85_9, hfz85_10⟩ := bF11 BK262.out) | ((with_reducible refine gate_callee (f := 54) rfl ?_); refine goesL_ (some 12) rfl rfl Try.func54 (by kernel_rfl) rfl #[.agg #[.int .i64 a0_8, .int .i64 a0_9, .slice A0_10 l0_10.length c0_10], .agg #[.int .i64 0, .int .i64 0, .slice none 0 0]] rfl mS ?_; (refine (foghornref12_Hushes.calls k a0_8 a0_9 _ _ l0_10 0 0 _ _ ([] : List (S35)) t264 _ ?side1 ?side2 ?side3 ?side4 A3.out).mono ?_); (case side1 => exact mC ((Kd.C_below HR0_10.out HB.out))); (case side2 => exact HC0_10.out); (case side3 => exact Kd.C_nil _ _); (case side4 => exact Nat.le_refl _); rintro e w86 ⟨rfl, hb⟩; refine ⟨_, rfl, ?_⟩; have n0_ := aA (bB BK262.out hb); have n1_ := aA (below_step (mD1 GE262.out) hb); clear BK262 HB; have BK262 := n0_; have HB := n1_; clear n0_ n1_; (try clear hb); (try clear hb2); (try clear hk); (try clear hi); obtain ⟨hcz87_0, hcz87_1, hcz87_2, hcz87_3, hcz87_4, hcz87_5, hcz87_6, hcz87_7, hcz87_8, hcz87_9, hcz87_10⟩ := bC11 BK262.out; obtain ⟨hfz87_0, hfz87_1, hfz87_2, hfz87_3, hfz87_4, hfz87_5, hfz87_6, hfz87_7, hfz87_8, hfz87_9, hfz87_10⟩ := bF11 BK262.out))
    go_ret
    exact ⟨by first | rfl | (simp [errW_none, errW_some] <;> rfl) | (simp [*, errW_none, errW_some] <;> rfl), by repeat (first | (with_reducible first | exact HB.out | apply below_alloc | apply pw_below_drewN | apply below_drew1 | refine below_set ?_ GE262.out) | exact HB.out)⟩
end Go.Proofs.YtndgollcganhmaaQ.P
namespace Go.Proofs.Ytndgollcganhmaa
open Go.RowKit
abbrev Rst := List UInt8 × Bool
def takeF (n : Nat) (r : Rst) : List UInt8 × Rst := if r.1.length < n then (List.replicate n 0, ([], true)) else (r.1.take n, (r.1.drop n, r.2))
def numF : Rst → Nat × Rst
  | ([], _) => (0, ([], true))
  | (c :: t, b) => (c.toNat, (t, b))
def timeF : Nat → Nat → Rst → Nat × Rst
  | 0, n, r => (n, r)
  | k + 1, n, r => timeF k (n * 256 + (numF r).1) (numF r).2
def textF (r : Rst) : List UInt8 × Rst := takeF (numF r).1 (numF r).2
def tx (l : List UInt8) : ByteArray := ⟨l.toArray⟩
theorem tx_size (l : List UInt8) : (tx l).size = l.length := by simp [tx, ByteArray.size]
theorem tx_data (l : List UInt8) : (tx l).data.toList = l := rfl
theorem tx_of (s : ByteArray) : tx s.data.toList = s := by cases s; simp [tx]
def labF (r : Rst) : Lab × Rst := (⟨tx (textF r).1, tx (textF (textF r).2).1⟩, (textF (textF r).2).2)
def labsF : Nat → List Lab → Rst → List Lab × Rst
  | 0, l, r => (l, r)
  | n + 1, l, r => if r.2 = true then (l, r) else labsF n (l ++ [(labF r).1]) (labF r).2
def matF (r : Rst) : Mat × Rst :=
  (⟨(numF r).1, tx (textF (numF r).2).1, tx (textF (textF (numF r).2).2).1⟩, (textF (textF (numF r).2).2).2)
def matsF : Nat → List Mat → Rst → List Mat × Rst
  | 0, l, r => (l, r)
  | n + 1, l, r => if r.2 = true then (l, r) else matsF n (l ++ [(matF r).1]) (matF r).2
theorem takeF_len (n : Nat) (r : Rst) : (takeF n r).1.length = n := by
  unfold takeF
  split
  · simp
  · simp only [List.length_take]; omega
theorem numF_le (r : Rst) : (numF r).1 ≤ 255 := by
  obtain ⟨l, b⟩ := r
  cases l with
  | nil => simp [numF]
  | cons c t => have := c.toNat_lt; simp only [numF]; omega
theorem takeF_rest (n : Nat) (r : Rst) : (takeF n r).2.1.length ≤ r.1.length := by
  unfold takeF
  split
  · simp
  · simp
theorem numF_rest (r : Rst) : (numF r).2.1.length ≤ r.1.length := by
  obtain ⟨l, b⟩ := r
  cases l <;> simp [numF]
theorem numF_take (r : Rst) : numF r = ((takeF 1 r).1.headD 0 |>.toNat, (takeF 1 r).2) := by
  obtain ⟨l, b⟩ := r
  cases l <;> simp [numF, takeF]
theorem repeat_zero : ∀ n, Lib.repeatL [0] n = List.replicate n 0
  | 0 => rfl
  | n + 1 => by rw [Lib.repeatL, repeat_zero n]; rfl
end Go.Proofs.Ytndgollcganhmaa
namespace Go.Proofs.Ytndgollcganhmaa
open Go.RowKit
structure App (w : World) (k : Option Nat) where
  W : World
  gr : w.grownBy W k
instance (w : World) (k : Option Nat) : Nonempty (App w k) := ⟨⟨w, ⟨rfl, rfl, rfl, Nat.le_refl _, fun _ _ _ => rfl⟩⟩⟩
def RowAt (W : World) (B : Nat) (e : TypeId) (sz : Nat) (v : Value) (n : Nat) (xs : List Value) : Prop :=
  ∃ g c, v = .slice (some ⟨g, 0, none⟩) n c ∧ B ≤ g ∧ g < W.heap.size ∧ Hid (W.ownsRow B e sz (.slice (some ⟨g, 0, none⟩) n c) n xs)
section
variable {P : Program} {ops : Array Oper} {rest : List Oper} {o : Oper} {a : Act} {Q : Exit → Act → World → Prop} {K : Act → World → Prop} {W w w0 w1 : World} {v : Value} {e : TypeId} {B n sz : Nat} {xs : List Value} {k : Option Nat}
theorem RowAt.own (h : RowAt W B e sz v n xs) : Hid (W.ownsRow B e sz v n xs) := by
  obtain ⟨g, c, rfl, _, _, h⟩ := h
  exact h
theorem RowAt.of {g c : Nat} (h : Hid (W.ownsRow B e sz (.slice (some ⟨g, 0, none⟩) n c) n xs)) : RowAt W B e sz (.slice (some ⟨g, 0, none⟩) n c) n xs :=
  ⟨g, c, rfl, (h.out.lt _ rfl).1, (h.out.lt _ rfl).2, h⟩
theorem row_mono {B' : Nat} (h : W.ownsRow B e sz v n xs) (hb : B' ≤ B) : W.ownsRow B' e sz v n xs :=
  ⟨h.1, h.2.imp id fun ⟨g, cap, cur, h1, h2, h3⟩ => ⟨g, cap, cur, h1, Nat.le_trans hb h2, h3⟩⟩
end
end Go.Proofs.Ytndgollcganhmaa
namespace Go.Proofs.Ytndgollcganhmaa
open Go.RowKit
def FA (g : Nat) (r : Rst) (w : World) : Prop := w.heap[g]? = some (.cells #[.string (tx r.1), .bool r.2] 81 (0, 0))
def FP (g : Nat) (r : Rst) (w w' : World) : Prop := FA g r w' ∧ w.grownBy w' (some g)
theorem FP.trans {g : Nat} {r s : Rst} {w w1 w2 : World} (h : FP g r w w1) (k : FP g s w1 w2) : FP g s w w2 := ⟨k.1, h.2.trans k.2⟩
theorem FP.here {g : Nat} {r : Rst} {w : World} (h : FA g r w) : FP g r w w := ⟨h, World.grownBy.refl _ _⟩
theorem tx_cut (l : List UInt8) (n : Nat) (h : n ≤ l.length) : (tx l).extract 0 n = tx (l.take n) := by
  apply ByteArray.ext
  apply Array.toList_inj.1
  simp [tx, ByteArray.data_extract]
theorem tx_drop (l : List UInt8) (n : Nat) : (tx l).extract n l.length = tx (l.drop n) := by
  apply ByteArray.ext
  apply Array.toList_inj.1
  simp [tx, ByteArray.data_extract]
  exact List.take_of_length_le (by simp)
theorem set_heap {w : World} {g j : Nat} {cs : Array Value} {T : TypeId} (h : w.heap[g]? = some (.cells cs T (0, 0))) (v : Value) : (w.setCell ⟨g, j, none⟩ v).heap[g]? = some (.cells (cs.setIfInBounds j v) T (0, 0)) := by
  obtain ⟨hlt, hk⟩ := Array.getElem?_eq_some_iff.1 h
  show (w.heap.modify g _)[g]? = _
  rw [Array.getElem?_eq_getElem (by rw [Array.size_modify]; exact hlt), Array.getElem_modify_self, hk]
  rfl
theorem gr_set {w w1 : World} {g j : Nat} (h : w.grownBy w1 (some g)) (v : Value) : w.grownBy (w1.setCell ⟨g, j, none⟩ v) (some g) := by
  have key : w1.grownBy (w1.setCell ⟨g, j, none⟩ v) (some g) := ⟨rfl, rfl, rfl, by simp [World.setCell], fun i _ hne => by
    have : i ≠ g := fun h => hne (by rw [h])
    simp [World.setCell, Array.getElem?_modify]
    intro h; exact absurd h.symm this⟩
  exact h.trans key
theorem grown_of {w w1 : World} (h : Below w.heap.size w w1) (k : Option Nat) : w.grownBy w1 k := ⟨h.os, h.tape, h.output, h.size, fun i hi _ => h.block i hi⟩
set_option maxHeartbeats 1000000 in
theorem take_any (g : Nat) (r : Rst) (n : Nat) (w : World) (h : FA g r w) (hn : n ≤ 255) (hl : r.1.length ≤ 100000) :
    Calls Try.prog 88 #[.pointer (some ⟨g, 0, none⟩), .int .i64 n] w fun e w' => e = .returned (.string (tx (takeF n r).1)) ∧ FP g (takeF n r).2 w w' := by
  obtain ⟨l, b⟩ := r
  have hs := tx_size l
  have c0 : w.cell? ⟨g, 0, none⟩ = some (.string (tx l)) := blk_cell h rfl
  have c1 : w.cell? ⟨g, 1, none⟩ = some (.bool b) := blk_cell h rfl
  have hgl := blk_lt h
  have hfz : ∀ j, w.frozen? ⟨g, j, none⟩ = false := fun j => Lib.frozen_of_heap h j
  have HH := Lib.hid h
  clear h
  simp only at hl
  have HR := Lib.hid fun W => Try.strings_Repeat (tx [0]) n W (by omega) (by rw [tx_size]; simp; omega)
  by_cases hlt : l.length < n
  · go_enter Try.func88, Try.ntmps88
    go_wp2_with fail
    refine (HR.out _).mono ?_
    rintro e w2 ⟨rfl, hb⟩
    have hh := set_heap (j := 1) (set_heap (j := 0) HH.out (.string ⟨#[]⟩)) (.bool true)
    have hg := gr_set (j := 1) (gr_set (j := 0) (World.grownBy.refl w (some g)) (.string ⟨#[]⟩)) (.bool true)
    go_wp2_with fail
    go_ret
    have e1 : takeF n (l, b) = (List.replicate n 0, ([], true)) := by simp [takeF, hlt]
    rw [e1]
    refine ⟨by rw [tx_data, repeat_zero]; rfl, (hb.block g (by simpa using hgl)).trans hh, hg.trans (grown_of hb _)⟩
  · go_enter Try.func88, Try.ntmps88
    go_wp2_with fail
    go_ret
    have e1 : takeF n (l, b) = (l.take n, (l.drop n, b)) := by simp [takeF, hlt]
    rw [e1]
    rw [tx_cut l n (by omega), tx_drop]
    exact ⟨rfl, set_heap (j := 0) HH.out _, gr_set (World.grownBy.refl _ _) _⟩
theorem tx_at (l : List UInt8) (i : Nat) (h : i < l.length) (h2 : i < (tx l).size) : (tx l)[i]'h2 = l[i] := by
  simp [tx, ByteArray.getElem_eq_getElem_data]
  try rfl
theorem take1_at (r : Rst) (h : 0 < (tx (takeF 1 r).1).size) : (((tx (takeF 1 r).1)[0]'h).toNat : Int) = (numF r).1 := by
  have hl := takeF_len 1 r
  rw [tx_at _ _ (by omega)]
  rw [numF_take]
  obtain ⟨c, hc⟩ : ∃ c, (takeF 1 r).1 = [c] := List.length_eq_one_iff.1 hl
  simp [hc]
set_option maxHeartbeats 1000000 in
theorem number_any (g : Nat) (r : Rst) (w : World) (h : FA g r w) (hl : r.1.length ≤ 100000) :
    Calls Try.prog 61 #[.pointer (some ⟨g, 0, none⟩)] w fun e w' => e = .returned (.int .i64 (numF r).1) ∧ FP g (numF r).2 w w' := by
  have HT := Lib.hid (take_any g r 1 w h (by omega) hl)
  have hgl := blk_lt h
  have hr : (takeF 1 r).2 = (numF r).2 := by rw [numF_take]
  rw [hr] at HT
  obtain ⟨s, hs, hsz, hat⟩ : ∃ s, s = tx (takeF 1 r).1 ∧ s.size = 1 ∧ ∀ h : 0 < s.size, ((s[0]'h).toNat : Int) = (numF r).1 := ⟨_, rfl, by rw [tx_size, takeF_len], take1_at r⟩
  rw [← hs] at HT
  clear hs h hr
  have hat0 := hat (by omega)
  have hle := numF_le r
  go_enter Try.func61, Try.ntmps61
  go_wp2_with fail
  refine HT.out.mono ?_
  rintro e w2 ⟨rfl, hp⟩
  go_wp2_with fail
  go_ret
  exact ⟨rfl, hp⟩
theorem or256 (m c : Int) (h0 : 0 ≤ m) (h1 : m < 1099511627776) (h2 : 0 ≤ c) (h3 : c < 256) : bits .or .i64 (m * 256) c = m * 256 + c :=
  bits_join .i64 62 (by decide) (fun n a b => by rw [show (2 : Int) ^ 62 = 4611686018427387904 by decide] at b; rw [IntKind.wrap_i64]; omega) 8 (m * 256) c (by omega) (by rw [show (2 : Int) ^ 8 = 256 by decide]; omega) (by rw [show (2 : Int) ^ 62 = 4611686018427387904 by decide]; omega) h2 h3 (by rw [show (2 : Int) ^ 62 = 4611686018427387904 by decide]; omega)
set_option maxHeartbeats 1000000 in
theorem ftime_any (g : Nat) (r : Rst) (w : World) (h : FA g r w) (hl : r.1.length ≤ 100000) :
    Calls Try.prog 62 #[.pointer (some ⟨g, 0, none⟩)] w fun e w' => e = .returned (.int .i64 (timeF 6 0 r).1) ∧ FP g (timeF 6 0 r).2 w w' := by
  have HH := Lib.hid h
  clear h
  go_enter Try.func62, Try.ntmps62
  go_wp2
  go_loopw [4, 3] (fun i m wr => ∃ k q : Nat, ∃ s : Rst, k ≤ 6 ∧ i = .int .i64 k ∧ m = .int .i64 q ∧ q < 256 ^ k ∧ s.1.length ≤ 100000 ∧ Hid (timeF (6 - k) q s = timeF 6 0 r) ∧ Hid (FP g s w wr)) (fun i _ _ => 6 - (intOf i).toNat)
  case atStart => exact ⟨0, 0, r, by omega, rfl, rfl, by decide, hl, Lib.hid rfl, Lib.hid (FP.here HH.out)⟩
  case round =>
    obtain ⟨k, q, s, hk, rfl, rfl, hq, hsl, HE, HF⟩ := hrel
    by_cases hlt : k < 6
    · have hq5 : q < 1099511627776 := Nat.lt_of_lt_of_le hq (Nat.pow_le_pow_right (n := 256) (by decide) (show k ≤ 5 by omega))
      have HN := Lib.hid (number_any g s wr HF.out.1 hsl)
      have hle := numF_le s
      have hor := or256 q (numF s).1 (by omega) (by omega) (by omega) (by omega)
      have hrest := numF_rest s
      have HE2 := Lib.hid (show timeF (6 - (k + 1)) (q * 256 + (numF s).1) (numF s).2 = timeF 6 0 r by rw [← HE.out, show 6 - k = (6 - (k + 1)) + 1 by omega]; rfl)
      have HQ := Lib.hid (show q * 256 + (numF s).1 < 256 ^ (k + 1) by rw [Nat.pow_succ]; omega)
      clear HE hq
      obtain ⟨c, hc⟩ : ∃ c, c = (numF s).1 := ⟨_, rfl⟩
      rw [← hc] at HN hle hor HE2 HQ
      clear hc
      go_wp2_with fail
      refine HN.out.mono ?_
      rintro e w2 ⟨rfl, hp⟩
      go_wp2_with fail
      refine ⟨⟨k + 1, q * 256 + c, (numF s).2, by omega, by go_num, by go_num, HQ.out, by omega, HE2, Lib.hid (HF.out.trans hp)⟩, by simp [intOf]; omega⟩
    · obtain rfl : k = 6 := by omega
      have hE : (q, s) = timeF 6 0 r := HE.out
      have hF := HF.out
      go_wp2
      go_ret
      rw [← hE]
      exact ⟨rfl, hF⟩
theorem FP.drew {g : Nat} {r : Rst} {w w1 : World} (h : FP g r w.drew w1) : FP g r w w1 := ⟨h.1, h.2.os, h.2.tape, h.2.output, h.2.size, h.2.block⟩
set_option maxHeartbeats 1000000 in
theorem ftext_any (g : Nat) (r : Rst) (w : World) (h : FA g r w) (hl : r.1.length ≤ 100000) :
    Calls Try.prog 89 #[.pointer (some ⟨g, 0, none⟩)] w fun e w' => e = .returned (.string (tx (textF r).1)) ∧ FP g (textF r).2 w w' := by
  have HN := Lib.hid fun W (h : FA g r W) => number_any g r W h hl
  have HT := Lib.hid fun W (h : FA g (numF r).2 W) => take_any g (numF r).2 (numF r).1 W h (numF_le r) (Nat.le_trans (numF_rest r) hl)
  have hgl := blk_lt h
  have c0 : w.cell? ⟨g, 0, none⟩ = some (.string (tx r.1)) := blk_cell h rfl
  have HH := Lib.hid h
  clear h
  unfold textF
  go_enter Try.func89, Try.ntmps89
  go_wp2_with fail
  go_region_law (first
    | (go_simp; go_at_call 61; refine (HN.out _ (show FA g r w.drew from HH.out)).mono ?_; rintro e w1 ⟨rfl, hp1⟩)
    | (go_simp; go_at_call 88; refine (HT.out _ hp1.1).mono ?_; rintro e w2 ⟨rfl, hp2⟩))
  all_goals (go_wp2_with fail; go_ret; exact ⟨rfl, (hp1.trans hp2).drew⟩)
theorem gr_then {w w1 w2 : World} {g : Nat} {k : Option Nat} (h : w.grownBy w1 (some g)) (h2 : w1.grownBy w2 k) (hk : ∀ j, k = some j → w.heap.size ≤ j) : w.grownBy w2 (some g) :=
  ⟨h2.os.trans h.os, h2.tape.trans h.tape, h2.output.trans h.output, Nat.le_trans h.size h2.size, fun i hi hne =>
    (h2.block i (Nat.lt_of_lt_of_le hi h.size) (fun e => by have := hk i e.symm; omega)).trans (h.block i hi hne)⟩
theorem infoLabF : (Try.prog.info? 41).map (fun i => (i.zero, i.size, i.bytes)) = some (some (.agg #[.string ⟨#[]⟩, .string ⟨#[]⟩]), 2, 32) := by kernel_rfl
theorem infoMatF : (Try.prog.info? 35).map (fun i => (i.zero, i.size, i.bytes)) = some (some (.agg #[.int .i64 0, .string ⟨#[]⟩, .string ⟨#[]⟩]), 3, 40) := by kernel_rfl
theorem FA.far {g : Nat} {r : Rst} {w w1 : World} {k : Option Nat} (h : FA g r w) (hg : w.grownBy w1 k) (hk : ∀ j, k = some j → g < j) : FA g r w1 :=
  (hg.block g (blk_lt h) (fun e => by have := hk g e.symm; omega)).trans h
theorem row_ne {w : World} {B g n sz : Nat} {e : TypeId} {v : Value} {xs : List Value} (h : w.ownsRow B e sz v n xs) (hg : g < B) : v.ownBlock = none ∨ v.ownBlock ≠ some g :=
  .inr fun e => by have := (h.lt g e).1; omega
theorem row_gt {w : World} {B g n sz : Nat} {e : TypeId} {v : Value} {xs : List Value} (h : w.ownsRow B e sz v n xs) (hg : g < B) : ∀ j, v.ownBlock = some j → g < j :=
  fun j e => by have := (h.lt j e).1; omega
theorem textF_rest (r : Rst) : (textF r).2.1.length ≤ r.1.length := Nat.le_trans (takeF_rest _ _) (numF_rest _)
theorem labsF_done (k : Nat) (l : List Lab) (s : Rst) (h : k = 0 ∨ s.2 = true) : labsF k l s = (l, s) := by
  cases k with
  | zero => rfl
  | succ k => simp [labsF, h.resolve_left (by omega)]
theorem labsF_next (k : Nat) (l : List Lab) (s : Rst) (h0 : 0 < k) (h : s.2 = false) : labsF k l s = labsF (k - 1) (l ++ [(labF s).1]) (labF s).2 := by
  obtain ⟨k, rfl⟩ : ∃ j, k = j + 1 := ⟨k - 1, by omega⟩
  simp [labsF, h]
theorem labsC_snoc (l : List Lab) (x : Lab) : labsC l ++ labC x = labsC (l ++ [x]) := by simp [labsC]
theorem labs_oneF (x : Lab) : ∀ u ∈ labC x, u.oneCell' = true := by simp [labC, Value.oneCell']
theorem mats_oneF (x : Mat) : ∀ u ∈ matC x, u.oneCell' = true := by simp [matC, Value.oneCell']
set_option maxHeartbeats 2000000 in
set_option maxRecDepth 100000 in
theorem flabels_any (g : Nat) (r : Rst) (w : World) (h : FA g r w) (hl : r.1.length ≤ 100000) :
    Calls Try.prog 63 #[.pointer (some ⟨g, 0, none⟩)] w fun e w' => ∃ v, e = .returned v ∧ Hid (w'.ownsRow w.heap.size 41 2 v (labsF (numF r).1 [] (numF r).2).1.length (labsC (labsF (numF r).1 [] (numF r).2).1)) ∧ FP g (labsF (numF r).1 [] (numF r).2).2 w w' := by
  have hgl := blk_lt h
  have HN := Lib.hid (number_any g r w h hl)
  have hr0 := numF_rest r
  have hn0 := numF_le r
  obtain ⟨R, hR⟩ : ∃ R, R = labsF (numF r).1 [] (numF r).2 := ⟨_, rfl⟩
  rw [← hR]
  have HRR := Lib.hid hR
  clear hR h
  obtain ⟨n0, hn⟩ : ∃ n, n = (numF r).1 := ⟨_, rfl⟩
  rw [← hn] at HN hn0 HRR
  clear hn
  go_enter Try.func63, Try.ntmps63
  go_wp2_with fail
  refine HN.out.mono ?_
  rintro e w1 ⟨rfl, hp⟩
  have HP := Lib.hid hp
  clear hp HN
  go_wp2_with fail
  go_loopw [4, 3] (fun i v wr => ∃ k : Nat, ∃ l : List Lab, ∃ s : Rst, i = .int .i64 k ∧ k + l.length ≤ 255 ∧ s.1.length ≤ 100000 ∧ Hid (R = labsF k l s) ∧ Hid (wr.ownsRow w.heap.size 41 2 v l.length (labsC l)) ∧ Hid (FP g s w wr)) (fun i _ _ => (intOf i).toNat)
  case atStart => exact ⟨n0, [], (numF r).2, rfl, by simpa using hn0, by omega, HRR, Lib.hid (World.ownsRow_nil _ _ _ _), HP⟩
  case round =>
    obtain ⟨k, l, s, rfl, hk, hsl, HE, HO, HF⟩ := hrel
    clear HP HRR
    have d1 : wr.cell? ⟨g, 1, none⟩ = some (.bool s.2) := blk_cell HF.out.1 rfl
    have hgr := blk_lt HF.out.1
    rcases Bool.eq_false_or_eq_true s.2 with hb | hb
    · rw [hb] at d1
      have hE := HE.out
      rw [labsF_done _ _ _ (.inr hb)] at hE
      by_cases h0 : 0 < k
      · go_wp2_with fail
        go_ret
        rw [hE]
        exact ⟨_, rfl, HO, HF.out⟩
      · go_wp2_with fail
        go_ret
        rw [hE]
        exact ⟨_, rfl, HO, HF.out⟩
    · rw [hb] at d1
      by_cases h0 : 0 < k
      · have hE := HE.out
        rw [labsF_next _ _ _ h0 hb] at hE
        have HE2 := Lib.hid hE
        clear hE HE
        have HT1 := Lib.hid (ftext_any g s wr HF.out.1 hsl)
        have hs2 := textF_rest s
        have hs3 := textF_rest (textF s).2
        have HT2 := Lib.hid fun W (h : FA g (textF s).2 W) => ftext_any g (textF s).2 W h (by omega)
        have hE3 : R = labsF (k - 1) (l ++ [⟨tx (textF s).1, tx (textF (textF s).2).1⟩]) (textF (textF s).2).2 := HE2.out
        obtain ⟨s2, hs2e⟩ : ∃ q, q = (textF s).2 := ⟨_, rfl⟩
        obtain ⟨n1, hn1⟩ : ∃ q, q = tx (textF s).1 := ⟨_, rfl⟩
        rw [← hs2e] at HT1 HT2 hE3 hs3 hs2
        rw [← hn1] at HT1 hE3
        obtain ⟨s3, hs3e⟩ : ∃ q, q = (textF s2).2 := ⟨_, rfl⟩
        obtain ⟨n2, hn2⟩ : ∃ q, q = tx (textF s2).1 := ⟨_, rfl⟩
        rw [← hs3e] at HT2 hE3 hs3
        rw [← hn2] at HT2 hE3
        have HE3 := Lib.hid hE3
        clear hs2e hn1 hs3e hn2 hE3 HE2
        have hsz := HF.out.2.size
        go_wp2_with fail
        refine HT1.out.mono ?_
        rintro e w2 ⟨rfl, hp⟩
        have HP2 := Lib.hid hp
        clear hp
        go_wp2_with fail
        refine (HT2.out w2 HP2.out.1).mono ?_
        rintro e w3 ⟨rfl, hp⟩
        have HP3 := Lib.hid (HP2.out.trans hp)
        have hsz3 := HP3.out.2.size
        have HO3 := Lib.hid (HO.out.kept HP3.out.2 (row_ne HO.out hgl))
        have HI := Lib.hid infoLabF
        clear hp HT1 HT2 HP2 HO
        go_wp2_with (refine ev_app1 rfl (.tmp 22) (.tmp 27) _ (by rfl) (.agg #[.string ⟨#[]⟩, .string ⟨#[]⟩]) 32 (by kernel_rfl) HI.out rfl (by omega) (by omega) [.string n1, .string n2] (by rfl) (by rfl) rfl (labs_oneF ⟨n1, n2⟩) HO3.out (by omega) (by omega) ?_; intro g1 cap1 w4 HO4 hB4 hlt4 hg4; have hP4 : FP g s3 w w4 := ⟨HP3.out.1.far hg4 (row_gt HO3.out hgl), gr_then (HF.out.trans HP3.out).2 hg4 (fun j e => ((HO3.out.lt j e).1))⟩; have HP4 := Lib.hid hP4; clear hP4)
        refine ⟨⟨k - 1, l ++ [⟨n1, n2⟩], s3, by go_num, by simp; omega, by omega, HE3, ?_, HP4⟩, by simp [intOf]; omega⟩
        have hO := HO4.out
        rw [show labsC l ++ [Value.string n1, Value.string n2] = labsC (l ++ [⟨n1, n2⟩]) from labsC_snoc l ⟨n1, n2⟩] at hO
        exact Lib.hid (by rw [List.length_append]; exact hO)
      · have hE := HE.out
        rw [labsF_done _ _ _ (.inl (by omega))] at hE
        go_wp2_with fail
        go_ret
        rw [hE]
        exact ⟨_, rfl, HO, HF.out⟩
theorem timeF_rest : ∀ (k n : Nat) (r : Rst), (timeF k n r).2.1.length ≤ r.1.length
  | 0, n, r => Nat.le_refl _
  | k + 1, n, r => Nat.le_trans (timeF_rest k _ _) (numF_rest r)
theorem FP.stay {g b : Nat} {r : Rst} {w w1 : World} {ob : Obj} (h : FP g r w w1) (hb : w.heap[b]? = some ob) (hne : b ≠ g) : w1.heap[b]? = some ob :=
  (h.2.block b (blk_lt hb) (fun e => hne (Option.some.inj e))).trans hb
theorem row_type {w : World} {B b n sz : Nat} {e T : TypeId} {v : Value} {xs : List Value} {cs : Array Value} {fr : Nat × Nat} (h : w.ownsRow B e sz v n xs) (hb : w.heap[b]? = some (.cells cs T fr)) (hT : T ≠ e) : v.ownBlock ≠ some b := by
  rcases h.2 with ⟨rfl, _⟩ | ⟨g, cap, cur, rfl, _, hg, _⟩
  · simp [Value.ownBlock]
  · intro h2
    obtain rfl : g = b := by simpa [Value.ownBlock] using h2
    rw [hb] at hg
    injection hg with hg
    injection hg with _ h3
    exact hT h3
theorem FP.set {g b j : Nat} {r : Rst} {w w1 : World} (h : FP g r w w1) (hb : b ≠ g) (hB : w.heap.size ≤ b) (u : Value) : FP g r w (w1.setCell ⟨b, j, none⟩ u) :=
  ⟨(Below.heap_setCell w1 ⟨b, j, none⟩ u g (fun e => hb e.symm)).trans h.1, gr_then h.2 (gr_set (World.grownBy.refl w1 (some b)) u) (fun i e => by obtain rfl := Option.some.inj e; exact hB)⟩
theorem row_set {w : World} {B b j n sz : Nat} {e : TypeId} {v : Value} {xs : List Value} (h : w.ownsRow B e sz v n xs) (hb : v.ownBlock ≠ some b) (u : Value) : (w.setCell ⟨b, j, none⟩ u).ownsRow B e sz v n xs :=
  h.kept (gr_set (World.grownBy.refl w (some b)) u) (.inr hb)
theorem matsF_done (k : Nat) (l : List Mat) (s : Rst) (h : k = 0 ∨ s.2 = true) : matsF k l s = (l, s) := by
  cases k with
  | zero => rfl
  | succ k => simp [matsF, h.resolve_left (by omega)]
theorem matsF_next (k : Nat) (l : List Mat) (s : Rst) (h0 : 0 < k) (h : s.2 = false) : matsF k l s = matsF (k - 1) (l ++ [(matF s).1]) (matF s).2 := by
  obtain ⟨k, rfl⟩ : ∃ j, k = j + 1 := ⟨k - 1, by omega⟩
  simp [matsF, h]
theorem matsC_snoc (l : List Mat) (x : Mat) : matsC l ++ matC x = matsC (l ++ [x]) := by simp [matsC]
set_option maxHeartbeats 4000000 in
set_option maxRecDepth 100000 in
theorem fhush_any (g : Nat) (r : Rst) (w : World) (h : FA g r w) (hl : r.1.length ≤ 100000) :
    Calls Try.prog 64 #[.pointer (some ⟨g, 0, none⟩)] w fun e w' => ∃ v, e = .returned (.agg #[.int .i64 (timeF 6 0 r).1, .int .i64 (timeF 6 0 (timeF 6 0 r).2).1, v])
      ∧ Hid (w'.ownsRow w.heap.size 35 3 v (matsF (numF (timeF 6 0 (timeF 6 0 r).2).2).1 [] (numF (timeF 6 0 (timeF 6 0 r).2).2).2).1.length (matsC (matsF (numF (timeF 6 0 (timeF 6 0 r).2).2).1 [] (numF (timeF 6 0 (timeF 6 0 r).2).2).2).1))
      ∧ FP g (matsF (numF (timeF 6 0 (timeF 6 0 r).2).2).1 [] (numF (timeF 6 0 (timeF 6 0 r).2).2).2).2 w w' := by
  have hgl := blk_lt h
  have hl1 := timeF_rest 6 0 r
  have HT1 := Lib.hid fun W (h : FA g r W) => ftime_any g r W h hl
  obtain ⟨fr, hfr⟩ : ∃ q, q = (timeF 6 0 r).1 := ⟨_, rfl⟩
  obtain ⟨s1, hs1⟩ : ∃ q, q = (timeF 6 0 r).2 := ⟨_, rfl⟩
  rw [← hfr, ← hs1] at HT1
  rw [← hfr, ← hs1]
  rw [← hs1] at hl1
  have hl2 := timeF_rest 6 0 s1
  have HT2 := Lib.hid fun W (h : FA g s1 W) => ftime_any g s1 W h (by omega)
  obtain ⟨tt, htt⟩ : ∃ q, q = (timeF 6 0 s1).1 := ⟨_, rfl⟩
  obtain ⟨s2, hs2⟩ : ∃ q, q = (timeF 6 0 s1).2 := ⟨_, rfl⟩
  rw [← htt, ← hs2] at HT2
  rw [← htt, ← hs2]
  rw [← hs2] at hl2
  have hl3 := numF_rest s2
  have hn0 := numF_le s2
  have HN := Lib.hid fun W (h : FA g s2 W) => number_any g s2 W h (by omega)
  obtain ⟨n0, hn⟩ : ∃ q, q = (numF s2).1 := ⟨_, rfl⟩
  obtain ⟨s3, hs3⟩ : ∃ q, q = (numF s2).2 := ⟨_, rfl⟩
  rw [← hn, ← hs3] at HN
  rw [← hn, ← hs3]
  rw [← hs3] at hl3
  rw [← hn] at hn0
  obtain ⟨R, hR⟩ : ∃ R, R = matsF n0 [] s3 := ⟨_, rfl⟩
  rw [← hR]
  have HRR := Lib.hid hR
  have HA := Lib.hid h
  clear hR h hfr hs1 htt hs2 hn hs3
  go_enter Try.func64, Try.ntmps64
  go_wp2_with fail
  refine (HT1.out _ (HA.out.far (World.grownBy_alloc w _ none) (by simp))).mono ?_
  rintro e w1 ⟨rfl, hp⟩
  have hZ := hp.stay (blk_new w (.cells #[.int .i64 0, .int .i64 0, .slice none 0 0] 48)) (by omega)
  have HP1 := Lib.hid (show FP g s1 w w1 from ⟨hp.1, gr_then (World.grownBy.refl w _) (World.grownBy_alloc w _ none) (by simp) |>.trans hp.2⟩)
  have HZ := Lib.hid hZ
  clear hp hZ HT1
  go_wp2_with fail
  refine (HT2.out _ HP1.out.1).mono ?_
  rintro e w2 ⟨rfl, hp⟩
  have hZ := hp.stay HZ.out (by omega)
  have HP2 := Lib.hid (HP1.out.trans hp)
  clear HZ
  have HZ := Lib.hid hZ
  clear hp hZ HT2
  have hsz1 := HP1.out.2.size
  have hsz2 := HP2.out.2.size
  go_wp2_with fail
  refine (HN.out _ (HP2.out.1.far (World.grownBy_alloc w2 _ none) (by simp))).mono ?_
  rintro e w3 ⟨rfl, hp⟩
  have hlt2 := blk_lt HZ.out
  have hZ := hp.stay ((Lib.alloc_old w2 (.cells #[.int .i64 fr, .int .i64 tt, .slice none 0 0] 48) w.heap.size hlt2).trans HZ.out) (by omega)
  have hY := hp.stay (blk_new w2 (.cells #[.int .i64 fr, .int .i64 tt, .slice none 0 0] 48)) (by omega)
  have HP3 := Lib.hid (show FP g s3 w w3 from ⟨hp.1, gr_then HP2.out.2 (World.grownBy_alloc w2 (.cells #[.int .i64 fr, .int .i64 tt, .slice none 0 0] 48) none) (by simp) |>.trans hp.2⟩)
  clear HZ
  have HZ := Lib.hid hZ
  have HY := Lib.hid hY
  clear hp hZ hY HN
  obtain ⟨hb, hhb⟩ : ∃ q, q = w2.heap.size := ⟨_, rfl⟩
  rw [← hhb] at HY
  simp only [← hhb]
  rw [← hhb] at hsz2 hlt2
  clear hhb
  go_wp2_with fail
  go_loopw [5] (fun i wr => ∃ k : Nat, ∃ l : List Mat, ∃ s : Rst, ∃ v : Value, i = .int .i64 k ∧ k + l.length ≤ 255 ∧ s.1.length ≤ 100000 ∧ Hid (R = matsF k l s) ∧ Hid (wr.ownsRow w.heap.size 35 3 v l.length (matsC l)) ∧ Hid (wr.heap[w.heap.size]? = some (.cells #[.int .i64 0, .int .i64 0, .slice none 0 0] 48 (0, 0))) ∧ Hid (wr.heap[hb]? = some (.cells #[.int .i64 fr, .int .i64 tt, v] 48 (0, 0))) ∧ Hid (FP g s w wr)) (fun i _ => (intOf i).toNat)
  case atStart => exact ⟨n0, [], s3, _, rfl, by simpa using hn0, by omega, HRR, Lib.hid (World.ownsRow_nil _ _ _ _), HZ, HY, HP3⟩
  case round =>
    obtain ⟨k, l, s, v, rfl, hk, hsl, HE, HO, HZ, HY, HF⟩ := hrel
    obtain ⟨A, c, rfl⟩ := row_form HO.out
    have d1 : wr.cell? ⟨g, 1, none⟩ = some (.bool s.2) := blk_cell HF.out.1 rfl
    have hgr := blk_lt HF.out.1
    have y0 : wr.cell? ⟨hb, 0, none⟩ = some (.int .i64 fr) := blk_cell HY.out rfl
    have y1 : wr.cell? ⟨hb, 1, none⟩ = some (.int .i64 tt) := blk_cell HY.out rfl
    have y2 : wr.cell? ⟨hb, 2, none⟩ = some (.slice A l.length c) := blk_cell HY.out rfl
    have z0 : wr.cell? ⟨w.heap.size, 0, none⟩ = some (.int .i64 0) := blk_cell HZ.out rfl
    have z1 : wr.cell? ⟨w.heap.size, 1, none⟩ = some (.int .i64 0) := blk_cell HZ.out rfl
    have z2 : wr.cell? ⟨w.heap.size, 2, none⟩ = some (.slice none 0 0) := blk_cell HZ.out rfl
    have hzr := row_type HO.out HZ.out (by decide)
    have zf := fun j => Lib.frozen_of_heap HZ.out j
    rcases Bool.eq_false_or_eq_true s.2 with hbb | hbb
    · rw [hbb] at d1
      have hE := HE.out
      rw [matsF_done _ _ _ (.inr hbb)] at hE
      by_cases h0 : 0 < k
      · skip
        go_wp2_with fail
        refine bodyPost_ret (v := .agg #[.int .i64 fr, .int .i64 tt, .slice A l.length c]) ?_ rfl ?_
        · simp [results, Try.results64, go_sem, z0, z1, z2]
        · rw [hE]
          exact ⟨_, rfl, Lib.hid (row_set (row_set (row_set HO.out hzr _) hzr _) hzr _), ((HF.out.set (by omega) (Nat.le_refl _) _).set (by omega) (Nat.le_refl _) _).set (by omega) (Nat.le_refl _) _⟩
      · skip
        go_wp2_with fail
        refine bodyPost_ret (v := .agg #[.int .i64 fr, .int .i64 tt, .slice A l.length c]) ?_ rfl ?_
        · simp [results, Try.results64, go_sem, z0, z1, z2]
        · rw [hE]
          exact ⟨_, rfl, Lib.hid (row_set (row_set (row_set HO.out hzr _) hzr _) hzr _), ((HF.out.set (by omega) (Nat.le_refl _) _).set (by omega) (Nat.le_refl _) _).set (by omega) (Nat.le_refl _) _⟩
    · rw [hbb] at d1
      by_cases h0 : 0 < k
      · have hE := HE.out
        rw [matsF_next _ _ _ h0 hbb] at hE
        have hE3 : R = matsF (k - 1) (l ++ [⟨(numF s).1, tx (textF (numF s).2).1, tx (textF (textF (numF s).2).2).1⟩]) (textF (textF (numF s).2).2).2 := hE
        have hq1 := numF_rest s
        have hq2 := textF_rest (numF s).2
        have hq3 := textF_rest (textF (numF s).2).2
        have hn1 := numF_le s
        have HM1 := Lib.hid (number_any g s wr HF.out.1 hsl)
        have HM2 := Lib.hid fun W (h : FA g (numF s).2 W) => ftext_any g (numF s).2 W h (by omega)
        have HM3 := Lib.hid fun W (h : FA g (textF (numF s).2).2 W) => ftext_any g (textF (numF s).2).2 W h (by omega)
        obtain ⟨s4, hs4⟩ : ∃ q, q = (numF s).2 := ⟨_, rfl⟩
        obtain ⟨kk, hkk⟩ : ∃ q, q = (numF s).1 := ⟨_, rfl⟩
        rw [← hs4] at HM1 HM2 HM3 hE3 hq1 hq2 hq3
        rw [← hkk] at HM1 hE3 hn1
        obtain ⟨s5, hs5⟩ : ∃ q, q = (textF s4).2 := ⟨_, rfl⟩
        obtain ⟨n1, hn1⟩ : ∃ q, q = tx (textF s4).1 := ⟨_, rfl⟩
        rw [← hs5] at HM2 HM3 hE3 hq2 hq3
        rw [← hn1] at HM2 hE3
        obtain ⟨s6, hs6⟩ : ∃ q, q = (textF s5).2 := ⟨_, rfl⟩
        obtain ⟨n2, hn2⟩ : ∃ q, q = tx (textF s5).1 := ⟨_, rfl⟩
        rw [← hs6] at HM3 hE3 hq3
        rw [← hn2] at HM3 hE3
        have HE3 := Lib.hid hE3
        clear hs4 hkk hs5 hn1 hs6 hn2 hE3 HE hE z0 z1 z2 zf y0 y1 y2 hzr
        have hsz := HF.out.2.size
        go_wp2_with fail
        refine HM1.out.mono ?_
        rintro e w4 ⟨rfl, hp⟩
        have HP4 := Lib.hid hp
        clear hp
        go_wp2_with fail
        refine (HM2.out w4 HP4.out.1).mono ?_
        rintro e w5 ⟨rfl, hp⟩
        have HP5 := Lib.hid (HP4.out.trans hp)
        clear hp HM1 HM2 HP4
        have hY5 := HP5.out.stay HY.out (by omega)
        have y5 : w5.cell? ⟨hb, 2, none⟩ = some (.slice A l.length c) := blk_cell hY5 rfl
        have HY5 := Lib.hid hY5
        clear hY5
        have HI := Lib.hid infoMatF
        go_wp2_with fail
        go_region_law (first
          | (go_simp; go_at_call 89; refine (HM3.out _ (show FA g s5 w5.drew from HP5.out.1)).mono ?_; rintro e w6 ⟨rfl, hp⟩; have hP6 : FP g s6 wr w6 := HP5.out.trans hp.drew; have hY6 := hP6.stay HY.out (by omega); have y6 : w6.cell? ⟨hb, 2, none⟩ = some (.slice A l.length c) := blk_cell hY6 rfl; have HP6 := Lib.hid hP6; have HY6 := Lib.hid hY6; have HO6 := Lib.hid (HO.out.kept hP6.2 (row_ne HO.out hgl)); have hb6 := blk_lt hY6; clear hp hP6 hY6; have hsz6 := HP6.out.2.size)
          | (refine st_app1 (W := w6) rfl (.tmp 33) (.tmp 39) _ (by rfl) (.agg #[.int .i64 0, .string ⟨#[]⟩, .string ⟨#[]⟩]) 40 (by kernel_rfl) HI.out rfl (by omega) (by omega) [.int .i64 kk, .string n1, .string n2] (by rfl) (by rfl) rfl (mats_oneF ⟨kk, n1, n2⟩) HO6.out (by omega) (by omega) ?_; intro g1 cap1 w7 HO7 hB7 hlt7 hg7; have hY7 := (hg7.block hb (blk_lt HY6.out) (fun e => row_type HO6.out HY6.out (by decide) e.symm)).trans HY6.out; have y7 := blk_cell hY7 (j := 2) rfl; have f7 := blk_free hY7 2; have hZ6 := HP6.out.stay HZ.out (by omega); have hZ7 := (hg7.block w.heap.size (blk_lt hZ6) (fun e => row_type HO6.out hZ6 (by decide) e.symm)).trans hZ6; have HY7 := Lib.hid hY7; have HZ7 := Lib.hid hZ7; have hP7 : FP g s6 w w7 := ⟨HP6.out.1.far hg7 (row_gt HO6.out hgl), gr_then (HF.out.trans HP6.out).2 hg7 (fun j e => ((HO6.out.lt j e).1))⟩; have HP7 := Lib.hid hP7; clear hY7 hZ6 hZ7 hP7))
        all_goals
          go_wp2_with fail
          have hO := HO7.out
          rw [show matsC l ++ [Value.int .i64 kk, Value.string n1, Value.string n2] = matsC (l ++ [⟨kk, n1, n2⟩]) from matsC_snoc l ⟨kk, n1, n2⟩] at hO
          have hne := row_type hO HY7.out (by decide)
          refine ⟨⟨k - 1, l ++ [⟨kk, n1, n2⟩], s6, _, by go_num, by simp; omega, by omega, HE3, Lib.hid (row_set (by rw [List.length_append]; exact hO) hne _), Lib.hid ((Below.heap_setCell w7 ⟨hb, 2, none⟩ _ w.heap.size (fun e => by have : w.heap.size = hb := e; omega)).trans HZ7.out), Lib.hid (set_heap (j := 2) HY7.out _), Lib.hid (HP7.out.set (by omega) (by omega) _)⟩, by simp [intOf]; omega⟩
      · have hE := HE.out
        rw [matsF_done _ _ _ (.inl (by omega))] at hE
        go_wp2_with fail
        refine bodyPost_ret (v := .agg #[.int .i64 fr, .int .i64 tt, .slice A l.length c]) ?_ rfl ?_
        · simp [results, Try.results64, go_sem, z0, z1, z2]
        · rw [hE]
          exact ⟨_, rfl, Lib.hid (row_set (row_set (row_set HO.out hzr _) hzr _) hzr _), ((HF.out.set (by omega) (Nat.le_refl _) _).set (by omega) (Nat.le_refl _) _).set (by omega) (Nat.le_refl _) _⟩
end Go.Proofs.Ytndgollcganhmaa
namespace Go.Proofs.Ytndgollcganhmaa
open Go.RowKit
def iter (f : Int → Int) : Nat → Int → Int
  | 0, r => r
  | k+1, r => f (iter f k r)
end Go.Proofs.Ytndgollcganhmaa
namespace Go.Proofs.Ytndgollcganhmaa
open Go.RowKit
theorem tx_nil {l : List UInt8} (h : l.isEmpty = true) : (tx l).toList = [] := by
  cases l with
  | nil => rw [ByteArray.toList_eq]; rfl
  | cons a l => simp at h
theorem tx_cons {l : List UInt8} (h : l.isEmpty = false) : ¬ (tx l).toList = [] := by
  cases l with
  | nil => simp at h
  | cons a l => rw [ByteArray.toList_eq]; simp [tx]
theorem set_bel {B b j : Nat} {w W : World} {u : Value} (h : Below B w W) (hb : B ≤ b) : Below B w (W.setCell ⟨b, j, none⟩ u) := h.setCell (p := ⟨b, j, none⟩) hb u
def getE (s : Rst) (rb : Bool) (x y : Value) : Ending := if (s.2 || !s.1.isEmpty || !rb) = true then .returned (.tuple #[x, .int .i64 13]) else .returned (.tuple #[y, .int .i64 0])
theorem getE1 {s : Rst} {rb : Bool} {x y : Value} (h : s.2 = true) : .returned (.tuple #[x, .int .i64 13]) = getE s rb x y := by simp [getE, h]
theorem getE2 {s : Rst} {rb : Bool} {x y : Value} (h : s.1.isEmpty = false) : .returned (.tuple #[x, .int .i64 13]) = getE s rb x y := by simp [getE, h]
theorem getE3 {s : Rst} {x y : Value} : .returned (.tuple #[x, .int .i64 13]) = getE s false x y := by simp [getE]
theorem getE4 {s : Rst} {x y : Value} (h : s.2 = false) (h2 : s.1.isEmpty = true) : .returned (.tuple #[y, .int .i64 0]) = getE s true x y := by simp only [getE, h, h2]; rfl
section
variable (g : Nat)
set_option maxHeartbeats 8000000 in
set_option maxRecDepth 100000 in
theorem get0_any (a0 : ByteArray) (w : World) (hl : a0.data.toList.length ≤ 100000) (hkk : (numF (a0.data.toList, false)).1 ≠ 1 ∧ (numF (a0.data.toList, false)).1 ≠ 2 ∧ (numF (a0.data.toList, false)).1 ≠ 3) (rb : Bool)
    (HR : ∀ W, Calls Try.prog 26 #[.agg (recC (numF (a0.data.toList, false)).1 (.slice none 0 0) 0 0 0 0 0 (.slice none 0 0) 0 0 (.slice none 0 0))] W fun e w' => e = .returned (.bool rb) ∧ Below W.heap.size W w') :
    Calls Try.prog 30 #[.string a0] w fun e w' => e = getE (numF (a0.data.toList, false)).2 rb (.agg (recC 0 (.slice none 0 0) 0 0 0 0 0 (.slice none 0 0) 0 0 (.slice none 0 0))) (.agg (recC (numF (a0.data.toList, false)).1 (.slice none 0 0) 0 0 0 0 0 (.slice none 0 0) 0 0 (.slice none 0 0))) ∧ Below w.heap.size w w' := by
  have hl0 : (numF (a0.data.toList, false)).2.1.length ≤ a0.data.toList.length := numF_rest (a0.data.toList, false)
  have HN := Lib.hid fun W (h : FA (w.heap.size + 1) (a0.data.toList, false) W) => number_any (w.heap.size + 1) (a0.data.toList, false) W h hl
  obtain ⟨k, hk⟩ : ∃ q, q = (numF (a0.data.toList, false)).1 := ⟨_, rfl⟩
  obtain ⟨s0, hs0⟩ : ∃ q, q = (numF (a0.data.toList, false)).2 := ⟨_, rfl⟩
  rw [← hk, ← hs0] at HN
  rw [← hk] at hkk
  rw [← hs0] at hl0
  have HR := Lib.hid HR
  rw [← hk] at HR
  rw [← hk, ← hs0]
  unfold recC at *
  clear hk hs0
  go_enter Try.func30, Try.ntmps30
  go_wp2_with fail
  refine (HN.out _ ?_).mono ?_
  case refine_1 =>
    have := blk_new (w.alloc (.cells (recC 0 (.slice none 0 0) 0 0 0 0 0 (.slice none 0 0) 0 0 (.slice none 0 0)) 50)) (.cells #[.string a0, .bool false] 81)
    rw [size_alloc] at this
    unfold FA
    rw [tx_of]
    exact this
  rintro e w1 ⟨rfl, hp⟩
  have hZ := hp.stay (blk_new1 w (.cells (recC 0 (.slice none 0 0) 0 0 0 0 0 (.slice none 0 0) 0 0 (.slice none 0 0)) 50) (.cells #[.string a0, .bool false] 81)) (by omega)
  have hsz1 := hp.2.size
  simp only [size_alloc] at hsz1
  have HP1 := Lib.hid hp
  have HZ := Lib.hid hZ
  clear hp hZ HN
  have hbw : Below w.heap.size w w1 := ⟨HP1.out.2.os, HP1.out.2.tape, HP1.out.2.output, by omega, fun i hi => (HP1.out.2.block i (by simp only [size_alloc]; omega) (by simp; omega)).trans ((Lib.alloc_old _ _ _ (by rw [size_alloc]; omega)).trans (Lib.alloc_old _ _ _ hi))⟩
  have HX := Lib.hid (blk_new w1 (.cells (recC k (.slice none 0 0) 0 0 0 0 0 (.slice none 0 0) 0 0 (.slice none 0 0)) 50))
  have hZ := (Lib.alloc_old w1 (.cells (recC k (.slice none 0 0) 0 0 0 0 0 (.slice none 0 0) 0 0 (.slice none 0 0)) 50) _ (blk_lt HZ.out)).trans HZ.out
  have HF := Lib.hid (HP1.out.1.far (World.grownBy_alloc w1 (.cells (recC k (.slice none 0 0) 0 0 0 0 0 (.slice none 0 0) 0 0 (.slice none 0 0)) 50) none) (by simp))
  have HB := Lib.hid (hbw.alloc (by omega) (.cells (recC k (.slice none 0 0) 0 0 0 0 0 (.slice none 0 0) 0 0 (.slice none 0 0)) 50))
  clear HZ hbw
  have HZ := Lib.hid hZ
  unfold recC at *
  clear hZ HP1
  go_upto_region 4 with fail
  refine name_world (fun W hW => ?_)
  rw [← hW] at HX HZ HF HB
  clear hW
  obtain ⟨r, hr⟩ : ∃ r, r = w1.heap.size := ⟨_, rfl⟩
  simp only [← hr]
  rw [← hr] at HX hsz1
  clear hr
  have k1 : ((k : Int) == 1) = false := by simp; omega
  have k2 : ((k : Int) == 2) = false := by simp; omega
  have k3 : ((k : Int) == 3) = false := by simp; omega
  have cg0 : W.cell? ⟨w.heap.size + 1, 0, none⟩ = some (.string (tx s0.1)) := blk_cell HF.out rfl
  have cg1 : W.cell? ⟨w.heap.size + 1, 1, none⟩ = some (.bool s0.2) := blk_cell HF.out rfl
  have hgW := blk_lt HF.out
  have zf := fun j => Lib.frozen_of_heap HZ.out j
  have z0 : W.cell? ⟨w.heap.size, 0, none⟩ = some (.int .i64 0) := blk_cell HZ.out rfl
  have z1 : W.cell? ⟨w.heap.size, 1, none⟩ = some (.slice none 0 0) := blk_cell HZ.out rfl
  have z2 : W.cell? ⟨w.heap.size, 2, none⟩ = some (.int .i64 0) := blk_cell HZ.out rfl
  have z3 : W.cell? ⟨w.heap.size, 3, none⟩ = some (.int .i64 0) := blk_cell HZ.out rfl
  have z4 : W.cell? ⟨w.heap.size, 4, none⟩ = some (.int .i64 0) := blk_cell HZ.out rfl
  have z5 : W.cell? ⟨w.heap.size, 5, none⟩ = some (.int .i64 0) := blk_cell HZ.out rfl
  have z6 : W.cell? ⟨w.heap.size, 6, none⟩ = some (.int .i64 0) := blk_cell HZ.out rfl
  have z7 : W.cell? ⟨w.heap.size, 7, none⟩ = some (.slice none 0 0) := blk_cell HZ.out rfl
  have z8 : W.cell? ⟨w.heap.size, 8, none⟩ = some (.int .i64 0) := blk_cell HZ.out rfl
  have z9 : W.cell? ⟨w.heap.size, 9, none⟩ = some (.int .i64 0) := blk_cell HZ.out rfl
  have z10 : W.cell? ⟨w.heap.size, 10, none⟩ = some (.slice none 0 0) := blk_cell HZ.out rfl
  have x0 : W.cell? ⟨r, 0, none⟩ = some (.int .i64 k) := blk_cell HX.out rfl
  have x1 : W.cell? ⟨r, 1, none⟩ = some (.slice none 0 0) := blk_cell HX.out rfl
  have x2 : W.cell? ⟨r, 2, none⟩ = some (.int .i64 0) := blk_cell HX.out rfl
  have x3 : W.cell? ⟨r, 3, none⟩ = some (.int .i64 0) := blk_cell HX.out rfl
  have x4 : W.cell? ⟨r, 4, none⟩ = some (.int .i64 0) := blk_cell HX.out rfl
  have x5 : W.cell? ⟨r, 5, none⟩ = some (.int .i64 0) := blk_cell HX.out rfl
  have x6 : W.cell? ⟨r, 6, none⟩ = some (.int .i64 0) := blk_cell HX.out rfl
  have x7 : W.cell? ⟨r, 7, none⟩ = some (.slice none 0 0) := blk_cell HX.out rfl
  have x8 : W.cell? ⟨r, 8, none⟩ = some (.int .i64 0) := blk_cell HX.out rfl
  have x9 : W.cell? ⟨r, 9, none⟩ = some (.int .i64 0) := blk_cell HX.out rfl
  have x10 : W.cell? ⟨r, 10, none⟩ = some (.slice none 0 0) := blk_cell HX.out rfl
  rcases Bool.eq_false_or_eq_true s0.2 with hb | hb
  · rw [hb] at cg1
    go_wp2_with fail
    refine bodyPost_ret (v := .tuple #[.agg #[.int .i64 0, .slice none 0 0, .int .i64 0, .int .i64 0, .int .i64 0, .int .i64 0, .int .i64 0, .slice none 0 0, .int .i64 0, .int .i64 0, .slice none 0 0], .int .i64 13]) ?_ rfl ?_
    · simp [results, Try.results30, go_sem, z0, z1, z2, z3, z4, z5, z6, z7, z8, z9, z10]
    · exact ⟨getE1 hb, by (with_reducible (repeat (refine set_bel ?_ (Nat.le_refl _)))); exact HB.out⟩
  · rw [hb] at cg1
    rcases Bool.eq_false_or_eq_true s0.1.isEmpty with he | he
    · have hne2 := tx_nil he
      go_wp2_with fail
      refine (HR.out _).mono ?_
      rintro e w9 ⟨rfl, hbR⟩
      have HZ9 := Lib.hid ((hbR.block _ (blk_lt HZ.out)).trans HZ.out)
      have HX9 := Lib.hid ((hbR.block _ (blk_lt HX.out)).trans HX.out)
      have hsz9 := hbR.size
      have HB9 := Lib.hid (HB.out.trans (hbR.mono HB.out.size))
      clear z0 z1 z2 z3 z4 z5 z6 z7 z8 z9 z10 x0 x1 x2 x3 x4 x5 x6 x7 x8 x9 x10
      clear hbR zf
      have zf := fun j => Lib.frozen_of_heap HZ9.out j
      have z0 : w9.cell? ⟨w.heap.size, 0, none⟩ = some (.int .i64 0) := blk_cell HZ9.out rfl
      have z1 : w9.cell? ⟨w.heap.size, 1, none⟩ = some (.slice none 0 0) := blk_cell HZ9.out rfl
      have z2 : w9.cell? ⟨w.heap.size, 2, none⟩ = some (.int .i64 0) := blk_cell HZ9.out rfl
      have z3 : w9.cell? ⟨w.heap.size, 3, none⟩ = some (.int .i64 0) := blk_cell HZ9.out rfl
      have z4 : w9.cell? ⟨w.heap.size, 4, none⟩ = some (.int .i64 0) := blk_cell HZ9.out rfl
      have z5 : w9.cell? ⟨w.heap.size, 5, none⟩ = some (.int .i64 0) := blk_cell HZ9.out rfl
      have z6 : w9.cell? ⟨w.heap.size, 6, none⟩ = some (.int .i64 0) := blk_cell HZ9.out rfl
      have z7 : w9.cell? ⟨w.heap.size, 7, none⟩ = some (.slice none 0 0) := blk_cell HZ9.out rfl
      have z8 : w9.cell? ⟨w.heap.size, 8, none⟩ = some (.int .i64 0) := blk_cell HZ9.out rfl
      have z9 : w9.cell? ⟨w.heap.size, 9, none⟩ = some (.int .i64 0) := blk_cell HZ9.out rfl
      have z10 : w9.cell? ⟨w.heap.size, 10, none⟩ = some (.slice none 0 0) := blk_cell HZ9.out rfl
      have x0 : w9.cell? ⟨r, 0, none⟩ = some (.int .i64 k) := blk_cell HX9.out rfl
      have x1 : w9.cell? ⟨r, 1, none⟩ = some (.slice none 0 0) := blk_cell HX9.out rfl
      have x2 : w9.cell? ⟨r, 2, none⟩ = some (.int .i64 0) := blk_cell HX9.out rfl
      have x3 : w9.cell? ⟨r, 3, none⟩ = some (.int .i64 0) := blk_cell HX9.out rfl
      have x4 : w9.cell? ⟨r, 4, none⟩ = some (.int .i64 0) := blk_cell HX9.out rfl
      have x5 : w9.cell? ⟨r, 5, none⟩ = some (.int .i64 0) := blk_cell HX9.out rfl
      have x6 : w9.cell? ⟨r, 6, none⟩ = some (.int .i64 0) := blk_cell HX9.out rfl
      have x7 : w9.cell? ⟨r, 7, none⟩ = some (.slice none 0 0) := blk_cell HX9.out rfl
      have x8 : w9.cell? ⟨r, 8, none⟩ = some (.int .i64 0) := blk_cell HX9.out rfl
      have x9 : w9.cell? ⟨r, 9, none⟩ = some (.int .i64 0) := blk_cell HX9.out rfl
      have x10 : w9.cell? ⟨r, 10, none⟩ = some (.slice none 0 0) := blk_cell HX9.out rfl
      cases rb
      · skip
        go_wp2_with fail
        refine bodyPost_ret (v := .tuple #[.agg #[.int .i64 0, .slice none 0 0, .int .i64 0, .int .i64 0, .int .i64 0, .int .i64 0, .int .i64 0, .slice none 0 0, .int .i64 0, .int .i64 0, .slice none 0 0], .int .i64 13]) ?_ rfl ?_
        · simp [results, Try.results30, go_sem, z0, z1, z2, z3, z4, z5, z6, z7, z8, z9, z10]
        · exact ⟨getE3, by (with_reducible (repeat (refine set_bel ?_ (Nat.le_refl _)))); exact HB9.out⟩
      · skip
        go_wp2_with fail
        refine bodyPost_ret (v := .tuple #[.agg #[.int .i64 k, .slice none 0 0, .int .i64 0, .int .i64 0, .int .i64 0, .int .i64 0, .int .i64 0, .slice none 0 0, .int .i64 0, .int .i64 0, .slice none 0 0], .int .i64 0]) ?_ rfl ?_
        · simp [results, Try.results30, go_sem, z0, z1, z2, z3, z4, z5, z6, z7, z8, z9, z10, x0, x1, x2, x3, x4, x5, x6, x7, x8, x9, x10]
        · exact ⟨getE4 hb he, by (with_reducible (repeat (refine set_bel ?_ (Nat.le_refl _)))); exact HB9.out⟩
    · have hne2 := tx_cons he
      go_wp2_with fail
      refine bodyPost_ret (v := .tuple #[.agg #[.int .i64 0, .slice none 0 0, .int .i64 0, .int .i64 0, .int .i64 0, .int .i64 0, .int .i64 0, .slice none 0 0, .int .i64 0, .int .i64 0, .slice none 0 0], .int .i64 13]) ?_ rfl ?_
      · simp [results, Try.results30, go_sem, z0, z1, z2, z3, z4, z5, z6, z7, z8, z9, z10]
      · exact ⟨getE2 he, by (with_reducible (repeat (refine set_bel ?_ (Nat.le_refl _)))); exact HB.out⟩
set_option maxHeartbeats 8000000 in
set_option maxRecDepth 100000 in
theorem get2_any (a0 : ByteArray) (w : World) (hl : a0.data.toList.length ≤ 100000) (hkk : (numF (a0.data.toList, false)).1 = 2) (rb : Bool)
    (HR : ∀ W A c, W.ownsRow w.heap.size 41 2 (.slice A (labsF (numF (numF (a0.data.toList, false)).2).1 [] (numF (numF (a0.data.toList, false)).2).2).1.length c) (labsF (numF (numF (a0.data.toList, false)).2).1 [] (numF (numF (a0.data.toList, false)).2).2).1.length (labsC (labsF (numF (numF (a0.data.toList, false)).2).1 [] (numF (numF (a0.data.toList, false)).2).2).1) → Calls Try.prog 26 #[.agg (recC 2 (.slice none 0 0) 0 0 0 0 0 (.slice A (labsF (numF (numF (a0.data.toList, false)).2).1 [] (numF (numF (a0.data.toList, false)).2).2).1.length c) 0 0 (.slice none 0 0))] W fun e w' => e = .returned (.bool rb) ∧ Below W.heap.size W w') :
    Calls Try.prog 30 #[.string a0] w fun e w' => ∃ A c, e = getE (labsF (numF (numF (a0.data.toList, false)).2).1 [] (numF (numF (a0.data.toList, false)).2).2).2 rb (.agg (recC 0 (.slice none 0 0) 0 0 0 0 0 (.slice none 0 0) 0 0 (.slice none 0 0))) (.agg (recC 2 (.slice none 0 0) 0 0 0 0 0 (.slice A (labsF (numF (numF (a0.data.toList, false)).2).1 [] (numF (numF (a0.data.toList, false)).2).2).1.length c) 0 0 (.slice none 0 0))) ∧ Hid (w'.ownsRow w.heap.size 41 2 (.slice A (labsF (numF (numF (a0.data.toList, false)).2).1 [] (numF (numF (a0.data.toList, false)).2).2).1.length c) (labsF (numF (numF (a0.data.toList, false)).2).1 [] (numF (numF (a0.data.toList, false)).2).2).1.length (labsC (labsF (numF (numF (a0.data.toList, false)).2).1 [] (numF (numF (a0.data.toList, false)).2).2).1)) ∧ Below w.heap.size w w' := by
  have hl0 : (numF (a0.data.toList, false)).2.1.length ≤ a0.data.toList.length := numF_rest (a0.data.toList, false)
  have HN := Lib.hid fun W (h : FA (w.heap.size + 1) (a0.data.toList, false) W) => number_any (w.heap.size + 1) (a0.data.toList, false) W h hl
  rw [hkk] at HN
  obtain ⟨s0, hs0⟩ : ∃ q, q = (numF (a0.data.toList, false)).2 := ⟨_, rfl⟩
  rw [← hs0] at HN HR hl0
  rw [← hs0]
  have HL := Lib.hid fun W (h : FA (w.heap.size + 1) s0 W) => flabels_any (w.heap.size + 1) s0 W h (by omega)
  obtain ⟨L, hL⟩ : ∃ q, q = (labsF (numF s0).1 [] (numF s0).2).1 := ⟨_, rfl⟩
  obtain ⟨s, hs⟩ : ∃ q, q = (labsF (numF s0).1 [] (numF s0).2).2 := ⟨_, rfl⟩
  rw [← hL] at HR
  rw [← hL, ← hs] at HL
  rw [← hL, ← hs]
  have HR := Lib.hid HR
  clear hkk hL hs
  unfold recC at *
  clear hs0
  go_enter Try.func30, Try.ntmps30
  go_wp2_with fail
  refine (HN.out _ ?_).mono ?_
  case refine_1 =>
    have := blk_new (w.alloc (.cells (recC 0 (.slice none 0 0) 0 0 0 0 0 (.slice none 0 0) 0 0 (.slice none 0 0)) 50)) (.cells #[.string a0, .bool false] 81)
    rw [size_alloc] at this
    unfold FA
    rw [tx_of]
    exact this
  rintro e w1 ⟨rfl, hp⟩
  have hZ := hp.stay (blk_new1 w (.cells (recC 0 (.slice none 0 0) 0 0 0 0 0 (.slice none 0 0) 0 0 (.slice none 0 0)) 50) (.cells #[.string a0, .bool false] 81)) (by omega)
  have hsz1 := hp.2.size
  simp only [size_alloc] at hsz1
  have HP1 := Lib.hid hp
  have HZ := Lib.hid hZ
  clear hp hZ HN
  have hbw : Below w.heap.size w w1 := ⟨HP1.out.2.os, HP1.out.2.tape, HP1.out.2.output, by omega, fun i hi => (HP1.out.2.block i (by simp only [size_alloc]; omega) (by simp; omega)).trans ((Lib.alloc_old _ _ _ (by rw [size_alloc]; omega)).trans (Lib.alloc_old _ _ _ hi))⟩
  have HX := Lib.hid (blk_new w1 (.cells (recC 2 (.slice none 0 0) 0 0 0 0 0 (.slice none 0 0) 0 0 (.slice none 0 0)) 50))
  have hZ := (Lib.alloc_old w1 (.cells (recC 2 (.slice none 0 0) 0 0 0 0 0 (.slice none 0 0) 0 0 (.slice none 0 0)) 50) _ (blk_lt HZ.out)).trans HZ.out
  have HF := Lib.hid (HP1.out.1.far (World.grownBy_alloc w1 (.cells (recC 2 (.slice none 0 0) 0 0 0 0 0 (.slice none 0 0) 0 0 (.slice none 0 0)) 50) none) (by simp))
  have HB := Lib.hid (hbw.alloc (by omega) (.cells (recC 2 (.slice none 0 0) 0 0 0 0 0 (.slice none 0 0) 0 0 (.slice none 0 0)) 50))
  clear HZ hbw
  have HZ := Lib.hid hZ
  unfold recC at *
  clear hZ HP1
  go_upto_region 4 with fail
  refine name_world (fun W hW => ?_)
  rw [← hW] at HX HZ HF HB
  clear hW
  obtain ⟨r, hr⟩ : ∃ r, r = w1.heap.size := ⟨_, rfl⟩
  simp only [← hr]
  rw [← hr] at HX hsz1
  clear hr
  go_wp2_with fail
  refine (HL.out W HF.out).mono ?_
  rintro e W1 ⟨v, rfl, HO, hp⟩
  have HO := Lib.hid (row_mono HO.out HB.out.size)
  have hZ := hp.stay HZ.out (by omega)
  have hX := hp.stay HX.out (by omega)
  have hzr := row_type HO.out hZ (by decide)
  have hxr := row_type HO.out hX (by decide)
  have hB := HB.out.grown hp.2 HB.out.size (fun k e => by obtain rfl := Option.some.inj e; omega)
  have xf := fun j => Lib.frozen_of_heap hX j
  have x7 := blk_cell hX (j := 7) rfl
  obtain ⟨A, c, rfl⟩ := row_form HO.out
  have HX1 := Lib.hid hX
  have HZ1 := Lib.hid hZ
  have HB1 := Lib.hid hB
  have HP1 := Lib.hid hp
  clear hX hZ hB hp HX HZ HB HF
  go_upto_region 17 with fail
  have HX := Lib.hid (set_heap (j := 7) HX1.out (.slice A L.length c))
  have HZ := Lib.hid ((Below.heap_setCell W1 ⟨r, 7, none⟩ (.slice A L.length c) w.heap.size (fun e => by have : w.heap.size = r := e; omega)).trans HZ1.out)
  have HF := Lib.hid (show FA (w.heap.size + 1) s (W1.setCell ⟨r, 7, none⟩ (.slice A L.length c)) from (Below.heap_setCell W1 ⟨r, 7, none⟩ (.slice A L.length c) (w.heap.size + 1) (fun e => by have : w.heap.size + 1 = r := e; omega)).trans HP1.out.1)
  have HB := Lib.hid (set_bel (j := 7) (u := .slice A L.length c) HB1.out (show w.heap.size ≤ r by omega))
  have HO := Lib.hid (row_set (j := 7) HO.out hxr (.slice A L.length c))
  clear HX1 HZ1 HB1 HP1 hxr
  refine name_world (fun W2 hW => ?_)
  rw [← hW] at HX HZ HF HB HO
  clear hW
  have cg0 : W2.cell? ⟨w.heap.size + 1, 0, none⟩ = some (.string (tx s.1)) := blk_cell HF.out rfl
  have cg1 : W2.cell? ⟨w.heap.size + 1, 1, none⟩ = some (.bool s.2) := blk_cell HF.out rfl
  have hgW := blk_lt HF.out
  have zf := fun j => Lib.frozen_of_heap HZ.out j
  have z0 : W2.cell? ⟨w.heap.size, 0, none⟩ = some (.int .i64 0) := blk_cell HZ.out rfl
  have z1 : W2.cell? ⟨w.heap.size, 1, none⟩ = some (.slice none 0 0) := blk_cell HZ.out rfl
  have z2 : W2.cell? ⟨w.heap.size, 2, none⟩ = some (.int .i64 0) := blk_cell HZ.out rfl
  have z3 : W2.cell? ⟨w.heap.size, 3, none⟩ = some (.int .i64 0) := blk_cell HZ.out rfl
  have z4 : W2.cell? ⟨w.heap.size, 4, none⟩ = some (.int .i64 0) := blk_cell HZ.out rfl
  have z5 : W2.cell? ⟨w.heap.size, 5, none⟩ = some (.int .i64 0) := blk_cell HZ.out rfl
  have z6 : W2.cell? ⟨w.heap.size, 6, none⟩ = some (.int .i64 0) := blk_cell HZ.out rfl
  have z7 : W2.cell? ⟨w.heap.size, 7, none⟩ = some (.slice none 0 0) := blk_cell HZ.out rfl
  have z8 : W2.cell? ⟨w.heap.size, 8, none⟩ = some (.int .i64 0) := blk_cell HZ.out rfl
  have z9 : W2.cell? ⟨w.heap.size, 9, none⟩ = some (.int .i64 0) := blk_cell HZ.out rfl
  have z10 : W2.cell? ⟨w.heap.size, 10, none⟩ = some (.slice none 0 0) := blk_cell HZ.out rfl
  have x0 : W2.cell? ⟨r, 0, none⟩ = some (.int .i64 2) := blk_cell HX.out rfl
  have x1 : W2.cell? ⟨r, 1, none⟩ = some (.slice none 0 0) := blk_cell HX.out rfl
  have x2 : W2.cell? ⟨r, 2, none⟩ = some (.int .i64 0) := blk_cell HX.out rfl
  have x3 : W2.cell? ⟨r, 3, none⟩ = some (.int .i64 0) := blk_cell HX.out rfl
  have x4 : W2.cell? ⟨r, 4, none⟩ = some (.int .i64 0) := blk_cell HX.out rfl
  have x5 : W2.cell? ⟨r, 5, none⟩ = some (.int .i64 0) := blk_cell HX.out rfl
  have x6 : W2.cell? ⟨r, 6, none⟩ = some (.int .i64 0) := blk_cell HX.out rfl
  have x7 : W2.cell? ⟨r, 7, none⟩ = some (.slice A L.length c) := blk_cell HX.out rfl
  have x8 : W2.cell? ⟨r, 8, none⟩ = some (.int .i64 0) := blk_cell HX.out rfl
  have x9 : W2.cell? ⟨r, 9, none⟩ = some (.int .i64 0) := blk_cell HX.out rfl
  have x10 : W2.cell? ⟨r, 10, none⟩ = some (.slice none 0 0) := blk_cell HX.out rfl
  rcases Bool.eq_false_or_eq_true s.2 with hb | hb
  · rw [hb] at cg1
    go_wp2_with fail
    refine bodyPost_ret (v := .tuple #[.agg #[.int .i64 0, .slice none 0 0, .int .i64 0, .int .i64 0, .int .i64 0, .int .i64 0, .int .i64 0, .slice none 0 0, .int .i64 0, .int .i64 0, .slice none 0 0], .int .i64 13]) ?_ rfl ?_
    · simp [results, Try.results30, go_sem, z0, z1, z2, z3, z4, z5, z6, z7, z8, z9, z10]
    · exact ⟨_, _, getE1 hb, Lib.hid (by (with_reducible (repeat (refine row_set ?_ hzr _))); exact HO.out), by (with_reducible (repeat (refine set_bel ?_ (Nat.le_refl _)))); exact HB.out⟩
  · rw [hb] at cg1
    rcases Bool.eq_false_or_eq_true s.1.isEmpty with he | he
    · have hne2 := tx_nil he
      go_wp2_with fail
      refine (HR.out W2 A c HO.out).mono ?_
      rintro e w9 ⟨rfl, hbR⟩
      have HZ9 := Lib.hid ((hbR.block _ (blk_lt HZ.out)).trans HZ.out)
      have HX9 := Lib.hid ((hbR.block _ (blk_lt HX.out)).trans HX.out)
      have hsz9 := hbR.size
      have HO9 := Lib.hid (row_bel HO.out hbR)
      have HB9 := Lib.hid (HB.out.trans (hbR.mono HB.out.size))
      clear z0 z1 z2 z3 z4 z5 z6 z7 z8 z9 z10 x0 x1 x2 x3 x4 x5 x6 x7 x8 x9 x10
      clear hbR zf
      have zf := fun j => Lib.frozen_of_heap HZ9.out j
      have z0 : w9.cell? ⟨w.heap.size, 0, none⟩ = some (.int .i64 0) := blk_cell HZ9.out rfl
      have z1 : w9.cell? ⟨w.heap.size, 1, none⟩ = some (.slice none 0 0) := blk_cell HZ9.out rfl
      have z2 : w9.cell? ⟨w.heap.size, 2, none⟩ = some (.int .i64 0) := blk_cell HZ9.out rfl
      have z3 : w9.cell? ⟨w.heap.size, 3, none⟩ = some (.int .i64 0) := blk_cell HZ9.out rfl
      have z4 : w9.cell? ⟨w.heap.size, 4, none⟩ = some (.int .i64 0) := blk_cell HZ9.out rfl
      have z5 : w9.cell? ⟨w.heap.size, 5, none⟩ = some (.int .i64 0) := blk_cell HZ9.out rfl
      have z6 : w9.cell? ⟨w.heap.size, 6, none⟩ = some (.int .i64 0) := blk_cell HZ9.out rfl
      have z7 : w9.cell? ⟨w.heap.size, 7, none⟩ = some (.slice none 0 0) := blk_cell HZ9.out rfl
      have z8 : w9.cell? ⟨w.heap.size, 8, none⟩ = some (.int .i64 0) := blk_cell HZ9.out rfl
      have z9 : w9.cell? ⟨w.heap.size, 9, none⟩ = some (.int .i64 0) := blk_cell HZ9.out rfl
      have z10 : w9.cell? ⟨w.heap.size, 10, none⟩ = some (.slice none 0 0) := blk_cell HZ9.out rfl
      have x0 : w9.cell? ⟨r, 0, none⟩ = some (.int .i64 2) := blk_cell HX9.out rfl
      have x1 : w9.cell? ⟨r, 1, none⟩ = some (.slice none 0 0) := blk_cell HX9.out rfl
      have x2 : w9.cell? ⟨r, 2, none⟩ = some (.int .i64 0) := blk_cell HX9.out rfl
      have x3 : w9.cell? ⟨r, 3, none⟩ = some (.int .i64 0) := blk_cell HX9.out rfl
      have x4 : w9.cell? ⟨r, 4, none⟩ = some (.int .i64 0) := blk_cell HX9.out rfl
      have x5 : w9.cell? ⟨r, 5, none⟩ = some (.int .i64 0) := blk_cell HX9.out rfl
      have x6 : w9.cell? ⟨r, 6, none⟩ = some (.int .i64 0) := blk_cell HX9.out rfl
      have x7 : w9.cell? ⟨r, 7, none⟩ = some (.slice A L.length c) := blk_cell HX9.out rfl
      have x8 : w9.cell? ⟨r, 8, none⟩ = some (.int .i64 0) := blk_cell HX9.out rfl
      have x9 : w9.cell? ⟨r, 9, none⟩ = some (.int .i64 0) := blk_cell HX9.out rfl
      have x10 : w9.cell? ⟨r, 10, none⟩ = some (.slice none 0 0) := blk_cell HX9.out rfl
      cases rb
      · skip
        go_wp2_with fail
        refine bodyPost_ret (v := .tuple #[.agg #[.int .i64 0, .slice none 0 0, .int .i64 0, .int .i64 0, .int .i64 0, .int .i64 0, .int .i64 0, .slice none 0 0, .int .i64 0, .int .i64 0, .slice none 0 0], .int .i64 13]) ?_ rfl ?_
        · simp [results, Try.results30, go_sem, z0, z1, z2, z3, z4, z5, z6, z7, z8, z9, z10]
        · exact ⟨_, _, getE3, Lib.hid (by (with_reducible (repeat (refine row_set ?_ hzr _))); exact HO9.out), by (with_reducible (repeat (refine set_bel ?_ (Nat.le_refl _)))); exact HB9.out⟩
      · skip
        go_wp2_with fail
        refine bodyPost_ret (v := .tuple #[.agg #[.int .i64 2, .slice none 0 0, .int .i64 0, .int .i64 0, .int .i64 0, .int .i64 0, .int .i64 0, .slice A L.length c, .int .i64 0, .int .i64 0, .slice none 0 0], .int .i64 0]) ?_ rfl ?_
        · simp [results, Try.results30, go_sem, z0, z1, z2, z3, z4, z5, z6, z7, z8, z9, z10, x0, x1, x2, x3, x4, x5, x6, x7, x8, x9, x10]
        · exact ⟨_, _, getE4 hb he, Lib.hid (by (with_reducible (repeat (refine row_set ?_ hzr _))); exact HO9.out), by (with_reducible (repeat (refine set_bel ?_ (Nat.le_refl _)))); exact HB9.out⟩
    · have hne2 := tx_cons he
      go_wp2_with fail
      refine bodyPost_ret (v := .tuple #[.agg #[.int .i64 0, .slice none 0 0, .int .i64 0, .int .i64 0, .int .i64 0, .int .i64 0, .int .i64 0, .slice none 0 0, .int .i64 0, .int .i64 0, .slice none 0 0], .int .i64 13]) ?_ rfl ?_
      · simp [results, Try.results30, go_sem, z0, z1, z2, z3, z4, z5, z6, z7, z8, z9, z10]
      · exact ⟨_, _, getE2 he, Lib.hid (by (with_reducible (repeat (refine row_set ?_ hzr _))); exact HO.out), by (with_reducible (repeat (refine set_bel ?_ (Nat.le_refl _)))); exact HB.out⟩
set_option maxHeartbeats 8000000 in
set_option maxRecDepth 100000 in
theorem get3_any (a0 : ByteArray) (w : World) (hl : a0.data.toList.length ≤ 100000) (hkk : (numF (a0.data.toList, false)).1 = 3) (s0 : Rst) (hs0 : s0 = (numF (a0.data.toList, false)).2)
    (fr tt : Nat) (hfr : fr = (timeF 6 0 s0).1) (htt : tt = (timeF 6 0 (timeF 6 0 s0).2).1) (L : List Mat) (s : Rst) (hL : (L, s) = matsF (numF (timeF 6 0 (timeF 6 0 s0).2).2).1 [] (numF (timeF 6 0 (timeF 6 0 s0).2).2).2) (rb : Bool)
    (HR : ∀ W A c, W.ownsRow w.heap.size 35 3 (.slice A L.length c) L.length (matsC L) → Calls Try.prog 26 #[.agg (recC 3 (.slice none 0 0) 0 0 0 0 0 (.slice none 0 0) fr tt (.slice A L.length c))] W fun e w' => e = .returned (.bool rb) ∧ Below W.heap.size W w') :
    Calls Try.prog 30 #[.string a0] w fun e w' => ∃ A c, e = getE s rb (.agg (recC 0 (.slice none 0 0) 0 0 0 0 0 (.slice none 0 0) 0 0 (.slice none 0 0))) (.agg (recC 3 (.slice none 0 0) 0 0 0 0 0 (.slice none 0 0) fr tt (.slice A L.length c))) ∧ Hid (w'.ownsRow w.heap.size 35 3 (.slice A L.length c) L.length (matsC L)) ∧ Below w.heap.size w w' := by
  have hl0 : (numF (a0.data.toList, false)).2.1.length ≤ a0.data.toList.length := numF_rest (a0.data.toList, false)
  have HN := Lib.hid fun W (h : FA (w.heap.size + 1) (a0.data.toList, false) W) => number_any (w.heap.size + 1) (a0.data.toList, false) W h hl
  rw [hkk] at HN
  rw [← hs0] at HN hl0
  have HL := Lib.hid fun W (h : FA (w.heap.size + 1) s0 W) => fhush_any (w.heap.size + 1) s0 W h (by omega)
  rw [← hL, ← hfr, ← htt] at HL
  have HR := Lib.hid HR
  clear hkk hL hfr htt
  unfold recC at *
  clear hs0
  go_enter Try.func30, Try.ntmps30
  go_wp2_with fail
  refine (HN.out _ ?_).mono ?_
  case refine_1 =>
    have := blk_new (w.alloc (.cells (recC 0 (.slice none 0 0) 0 0 0 0 0 (.slice none 0 0) 0 0 (.slice none 0 0)) 50)) (.cells #[.string a0, .bool false] 81)
    rw [size_alloc] at this
    unfold FA
    rw [tx_of]
    exact this
  rintro e w1 ⟨rfl, hp⟩
  have hZ := hp.stay (blk_new1 w (.cells (recC 0 (.slice none 0 0) 0 0 0 0 0 (.slice none 0 0) 0 0 (.slice none 0 0)) 50) (.cells #[.string a0, .bool false] 81)) (by omega)
  have hsz1 := hp.2.size
  simp only [size_alloc] at hsz1
  have HP1 := Lib.hid hp
  have HZ := Lib.hid hZ
  clear hp hZ HN
  have hbw : Below w.heap.size w w1 := ⟨HP1.out.2.os, HP1.out.2.tape, HP1.out.2.output, by omega, fun i hi => (HP1.out.2.block i (by simp only [size_alloc]; omega) (by simp; omega)).trans ((Lib.alloc_old _ _ _ (by rw [size_alloc]; omega)).trans (Lib.alloc_old _ _ _ hi))⟩
  have HX := Lib.hid (blk_new w1 (.cells (recC 3 (.slice none 0 0) 0 0 0 0 0 (.slice none 0 0) 0 0 (.slice none 0 0)) 50))
  have hZ := (Lib.alloc_old w1 (.cells (recC 3 (.slice none 0 0) 0 0 0 0 0 (.slice none 0 0) 0 0 (.slice none 0 0)) 50) _ (blk_lt HZ.out)).trans HZ.out
  have HF := Lib.hid (HP1.out.1.far (World.grownBy_alloc w1 (.cells (recC 3 (.slice none 0 0) 0 0 0 0 0 (.slice none 0 0) 0 0 (.slice none 0 0)) 50) none) (by simp))
  have HB := Lib.hid (hbw.alloc (by omega) (.cells (recC 3 (.slice none 0 0) 0 0 0 0 0 (.slice none 0 0) 0 0 (.slice none 0 0)) 50))
  clear HZ hbw
  have HZ := Lib.hid hZ
  unfold recC at *
  clear hZ HP1
  go_upto_region 4 with fail
  refine name_world (fun W hW => ?_)
  rw [← hW] at HX HZ HF HB
  clear hW
  obtain ⟨r, hr⟩ : ∃ r, r = w1.heap.size := ⟨_, rfl⟩
  simp only [← hr]
  rw [← hr] at HX hsz1
  clear hr
  go_wp2_with fail
  refine (HL.out W HF.out).mono ?_
  rintro e W1 ⟨v, rfl, HO, hp⟩
  have HO := Lib.hid (row_mono HO.out HB.out.size)
  have hZ := hp.stay HZ.out (by omega)
  have hX := hp.stay HX.out (by omega)
  have hzr := row_type HO.out hZ (by decide)
  have hxr := row_type HO.out hX (by decide)
  have hB := HB.out.grown hp.2 HB.out.size (fun k e => by obtain rfl := Option.some.inj e; omega)
  have xf := fun j => Lib.frozen_of_heap hX j
  have x8 := blk_cell hX (j := 8) rfl
  have x9 := blk_cell hX (j := 9) rfl
  have x10 := blk_cell hX (j := 10) rfl
  obtain ⟨A, c, rfl⟩ := row_form HO.out
  have HX1 := Lib.hid hX
  have HZ1 := Lib.hid hZ
  have HB1 := Lib.hid hB
  have HP1 := Lib.hid hp
  clear hX hZ hB hp HX HZ HB HF
  go_upto_region 17 with fail
  have HX := Lib.hid (set_heap (j := 10) (set_heap (j := 9) (set_heap (j := 8) HX1.out (.int .i64 fr)) (.int .i64 tt)) (.slice A L.length c))
  obtain ⟨W2, hW⟩ : ∃ q, q = ((W1.setCell ⟨r, 8, none⟩ (.int .i64 fr)).setCell ⟨r, 9, none⟩ (.int .i64 tt)).setCell ⟨r, 10, none⟩ (.slice A L.length c) := ⟨_, rfl⟩
  have hfar : ∀ b, b ≠ r → W2.heap[b]? = W1.heap[b]? := fun b hb => by
    rw [hW]
    exact (Below.heap_setCell _ ⟨r, 10, none⟩ _ b hb).trans ((Below.heap_setCell _ ⟨r, 9, none⟩ _ b hb).trans (Below.heap_setCell _ ⟨r, 8, none⟩ _ b hb))
  have HZ := Lib.hid ((hfar w.heap.size (by omega)).trans HZ1.out)
  have HF := Lib.hid (show FA (w.heap.size + 1) s W2 from (hfar (w.heap.size + 1) (by omega)).trans HP1.out.1)
  have HB := Lib.hid (set_bel (j := 10) (u := .slice A L.length c) (set_bel (j := 9) (u := .int .i64 tt) (set_bel (j := 8) (u := .int .i64 fr) HB1.out (show w.heap.size ≤ r by omega)) (show w.heap.size ≤ r by omega)) (show w.heap.size ≤ r by omega))
  have HO := Lib.hid (row_set (j := 10) (row_set (j := 9) (row_set (j := 8) HO.out hxr (.int .i64 fr)) hxr (.int .i64 tt)) hxr (.slice A L.length c))
  clear HX1 HZ1 HB1 HP1 hxr hfar
  simp only [← hW] at HX HB HO
  simp only [← hW]
  clear hW
  have cg0 : W2.cell? ⟨w.heap.size + 1, 0, none⟩ = some (.string (tx s.1)) := blk_cell HF.out rfl
  have cg1 : W2.cell? ⟨w.heap.size + 1, 1, none⟩ = some (.bool s.2) := blk_cell HF.out rfl
  have hgW := blk_lt HF.out
  have zf := fun j => Lib.frozen_of_heap HZ.out j
  have z0 : W2.cell? ⟨w.heap.size, 0, none⟩ = some (.int .i64 0) := blk_cell HZ.out rfl
  have z1 : W2.cell? ⟨w.heap.size, 1, none⟩ = some (.slice none 0 0) := blk_cell HZ.out rfl
  have z2 : W2.cell? ⟨w.heap.size, 2, none⟩ = some (.int .i64 0) := blk_cell HZ.out rfl
  have z3 : W2.cell? ⟨w.heap.size, 3, none⟩ = some (.int .i64 0) := blk_cell HZ.out rfl
  have z4 : W2.cell? ⟨w.heap.size, 4, none⟩ = some (.int .i64 0) := blk_cell HZ.out rfl
  have z5 : W2.cell? ⟨w.heap.size, 5, none⟩ = some (.int .i64 0) := blk_cell HZ.out rfl
  have z6 : W2.cell? ⟨w.heap.size, 6, none⟩ = some (.int .i64 0) := blk_cell HZ.out rfl
  have z7 : W2.cell? ⟨w.heap.size, 7, none⟩ = some (.slice none 0 0) := blk_cell HZ.out rfl
  have z8 : W2.cell? ⟨w.heap.size, 8, none⟩ = some (.int .i64 0) := blk_cell HZ.out rfl
  have z9 : W2.cell? ⟨w.heap.size, 9, none⟩ = some (.int .i64 0) := blk_cell HZ.out rfl
  have z10 : W2.cell? ⟨w.heap.size, 10, none⟩ = some (.slice none 0 0) := blk_cell HZ.out rfl
  have x0 : W2.cell? ⟨r, 0, none⟩ = some (.int .i64 3) := blk_cell HX.out rfl
  have x1 : W2.cell? ⟨r, 1, none⟩ = some (.slice none 0 0) := blk_cell HX.out rfl
  have x2 : W2.cell? ⟨r, 2, none⟩ = some (.int .i64 0) := blk_cell HX.out rfl
  have x3 : W2.cell? ⟨r, 3, none⟩ = some (.int .i64 0) := blk_cell HX.out rfl
  have x4 : W2.cell? ⟨r, 4, none⟩ = some (.int .i64 0) := blk_cell HX.out rfl
  have x5 : W2.cell? ⟨r, 5, none⟩ = some (.int .i64 0) := blk_cell HX.out rfl
  have x6 : W2.cell? ⟨r, 6, none⟩ = some (.int .i64 0) := blk_cell HX.out rfl
  have x7 : W2.cell? ⟨r, 7, none⟩ = some (.slice none 0 0) := blk_cell HX.out rfl
  have x8 : W2.cell? ⟨r, 8, none⟩ = some (.int .i64 fr) := blk_cell HX.out rfl
  have x9 : W2.cell? ⟨r, 9, none⟩ = some (.int .i64 tt) := blk_cell HX.out rfl
  have x10 : W2.cell? ⟨r, 10, none⟩ = some (.slice A L.length c) := blk_cell HX.out rfl
  rcases Bool.eq_false_or_eq_true s.2 with hb | hb
  · rw [hb] at cg1
    go_wp2_with fail
    refine bodyPost_ret (v := .tuple #[.agg #[.int .i64 0, .slice none 0 0, .int .i64 0, .int .i64 0, .int .i64 0, .int .i64 0, .int .i64 0, .slice none 0 0, .int .i64 0, .int .i64 0, .slice none 0 0], .int .i64 13]) ?_ rfl ?_
    · simp [results, Try.results30, go_sem, z0, z1, z2, z3, z4, z5, z6, z7, z8, z9, z10]
    · exact ⟨_, _, getE1 hb, Lib.hid (by (with_reducible (repeat (refine row_set ?_ hzr _))); exact HO.out), by (with_reducible (repeat (refine set_bel ?_ (Nat.le_refl _)))); exact HB.out⟩
  · rw [hb] at cg1
    rcases Bool.eq_false_or_eq_true s.1.isEmpty with he | he
    · have hne2 := tx_nil he
      go_wp2_with fail
      refine (HR.out W2 A c HO.out).mono ?_
      rintro e w9 ⟨rfl, hbR⟩
      have HZ9 := Lib.hid ((hbR.block _ (blk_lt HZ.out)).trans HZ.out)
      have HX9 := Lib.hid ((hbR.block _ (blk_lt HX.out)).trans HX.out)
      have hsz9 := hbR.size
      have HO9 := Lib.hid (row_bel HO.out hbR)
      have HB9 := Lib.hid (HB.out.trans (hbR.mono HB.out.size))
      clear z0 z1 z2 z3 z4 z5 z6 z7 z8 z9 z10 x0 x1 x2 x3 x4 x5 x6 x7 x8 x9 x10
      clear hbR zf
      have zf := fun j => Lib.frozen_of_heap HZ9.out j
      have z0 : w9.cell? ⟨w.heap.size, 0, none⟩ = some (.int .i64 0) := blk_cell HZ9.out rfl
      have z1 : w9.cell? ⟨w.heap.size, 1, none⟩ = some (.slice none 0 0) := blk_cell HZ9.out rfl
      have z2 : w9.cell? ⟨w.heap.size, 2, none⟩ = some (.int .i64 0) := blk_cell HZ9.out rfl
      have z3 : w9.cell? ⟨w.heap.size, 3, none⟩ = some (.int .i64 0) := blk_cell HZ9.out rfl
      have z4 : w9.cell? ⟨w.heap.size, 4, none⟩ = some (.int .i64 0) := blk_cell HZ9.out rfl
      have z5 : w9.cell? ⟨w.heap.size, 5, none⟩ = some (.int .i64 0) := blk_cell HZ9.out rfl
      have z6 : w9.cell? ⟨w.heap.size, 6, none⟩ = some (.int .i64 0) := blk_cell HZ9.out rfl
      have z7 : w9.cell? ⟨w.heap.size, 7, none⟩ = some (.slice none 0 0) := blk_cell HZ9.out rfl
      have z8 : w9.cell? ⟨w.heap.size, 8, none⟩ = some (.int .i64 0) := blk_cell HZ9.out rfl
      have z9 : w9.cell? ⟨w.heap.size, 9, none⟩ = some (.int .i64 0) := blk_cell HZ9.out rfl
      have z10 : w9.cell? ⟨w.heap.size, 10, none⟩ = some (.slice none 0 0) := blk_cell HZ9.out rfl
      have x0 : w9.cell? ⟨r, 0, none⟩ = some (.int .i64 3) := blk_cell HX9.out rfl
      have x1 : w9.cell? ⟨r, 1, none⟩ = some (.slice none 0 0) := blk_cell HX9.out rfl
      have x2 : w9.cell? ⟨r, 2, none⟩ = some (.int .i64 0) := blk_cell HX9.out rfl
      have x3 : w9.cell? ⟨r, 3, none⟩ = some (.int .i64 0) := blk_cell HX9.out rfl
      have x4 : w9.cell? ⟨r, 4, none⟩ = some (.int .i64 0) := blk_cell HX9.out rfl
      have x5 : w9.cell? ⟨r, 5, none⟩ = some (.int .i64 0) := blk_cell HX9.out rfl
      have x6 : w9.cell? ⟨r, 6, none⟩ = some (.int .i64 0) := blk_cell HX9.out rfl
      have x7 : w9.cell? ⟨r, 7, none⟩ = some (.slice none 0 0) := blk_cell HX9.out rfl
      have x8 : w9.cell? ⟨r, 8, none⟩ = some (.int .i64 fr) := blk_cell HX9.out rfl
      have x9 : w9.cell? ⟨r, 9, none⟩ = some (.int .i64 tt) := blk_cell HX9.out rfl
      have x10 : w9.cell? ⟨r, 10, none⟩ = some (.slice A L.length c) := blk_cell HX9.out rfl
      cases rb
      · skip
        go_wp2_with fail
        refine bodyPost_ret (v := .tuple #[.agg #[.int .i64 0, .slice none 0 0, .int .i64 0, .int .i64 0, .int .i64 0, .int .i64 0, .int .i64 0, .slice none 0 0, .int .i64 0, .int .i64 0, .slice none 0 0], .int .i64 13]) ?_ rfl ?_
        · simp [results, Try.results30, go_sem, z0, z1, z2, z3, z4, z5, z6, z7, z8, z9, z10]
        · exact ⟨_, _, getE3, Lib.hid (by (with_reducible (repeat (refine row_set ?_ hzr _))); exact HO9.out), by (with_reducible (repeat (refine set_bel ?_ (Nat.le_refl _)))); exact HB9.out⟩
      · skip
        go_wp2_with fail
        refine bodyPost_ret (v := .tuple #[.agg #[.int .i64 3, .slice none 0 0, .int .i64 0, .int .i64 0, .int .i64 0, .int .i64 0, .int .i64 0, .slice none 0 0, .int .i64 fr, .int .i64 tt, .slice A L.length c], .int .i64 0]) ?_ rfl ?_
        · simp [results, Try.results30, go_sem, z0, z1, z2, z3, z4, z5, z6, z7, z8, z9, z10, x0, x1, x2, x3, x4, x5, x6, x7, x8, x9, x10]
        · exact ⟨_, _, getE4 hb he, Lib.hid (by (with_reducible (repeat (refine row_set ?_ hzr _))); exact HO9.out), by (with_reducible (repeat (refine set_bel ?_ (Nat.le_refl _)))); exact HB9.out⟩
    · have hne2 := tx_cons he
      go_wp2_with fail
      refine bodyPost_ret (v := .tuple #[.agg #[.int .i64 0, .slice none 0 0, .int .i64 0, .int .i64 0, .int .i64 0, .int .i64 0, .int .i64 0, .slice none 0 0, .int .i64 0, .int .i64 0, .slice none 0 0], .int .i64 13]) ?_ rfl ?_
      · simp [results, Try.results30, go_sem, z0, z1, z2, z3, z4, z5, z6, z7, z8, z9, z10]
      · exact ⟨_, _, getE2 he, Lib.hid (by (with_reducible (repeat (refine row_set ?_ hzr _))); exact HO.out), by (with_reducible (repeat (refine set_bel ?_ (Nat.le_refl _)))); exact HB.out⟩
def numK : Nat → Rst → Rst
  | 0, r => r
  | k + 1, r => (numF (numK k r)).2
def rk (q : Nat → Nat) (k : Nat) : Array Value := #[.int .i64 1, .slice none 0 0, .int .i64 (if 0 < k then q 0 else 0 : Nat), .int .i64 (if 1 < k then q 1 else 0 : Nat), .int .i64 (if 2 < k then q 2 else 0 : Nat), .int .i64 0, .int .i64 (if 3 < k then q 3 else 0 : Nat), .slice none 0 0, .int .i64 0, .int .i64 0, .slice none 0 0]
theorem numK_rest (k : Nat) (r : Rst) : (numK k r).1.length ≤ r.1.length := by
  induction k with
  | zero => exact Nat.le_refl _
  | succ k ih => exact Nat.le_trans (numF_rest _) ih
set_option maxHeartbeats 8000000 in
set_option maxRecDepth 100000 in
theorem get1_any (a0 : ByteArray) (w : World) (hl : a0.data.toList.length ≤ 100000) (hkk : (numF (a0.data.toList, false)).1 = 1) (s0 : Rst) (hs0 : s0 = (numF (a0.data.toList, false)).2)
    (q : Nat → Nat) (hq : ∀ k, q k = (numF (numK k s0)).1) (due : Nat) (hdue : due = (timeF 6 0 (numK 4 s0)).1) (L : List Lab) (s : Rst) (hL : (L, s) = labsF (numF (timeF 6 0 (numK 4 s0)).2).1 [] (numF (timeF 6 0 (numK 4 s0)).2).2) (rb : Bool)
    (HR : ∀ W A c, W.ownsRow w.heap.size 41 2 (.slice A L.length c) L.length (labsC L) → Calls Try.prog 26 #[.agg (recC 1 (.slice A L.length c) (q 0) (q 1) (q 2) due (q 3) (.slice none 0 0) 0 0 (.slice none 0 0))] W fun e w' => e = .returned (.bool rb) ∧ Below W.heap.size W w') :
    Calls Try.prog 30 #[.string a0] w fun e w' => ∃ A c, e = getE s rb (.agg (recC 0 (.slice none 0 0) 0 0 0 0 0 (.slice none 0 0) 0 0 (.slice none 0 0))) (.agg (recC 1 (.slice A L.length c) (q 0) (q 1) (q 2) due (q 3) (.slice none 0 0) 0 0 (.slice none 0 0))) ∧ Hid (w'.ownsRow w.heap.size 41 2 (.slice A L.length c) L.length (labsC L)) ∧ Below w.heap.size w w' := by
  have hl0 : (numF (a0.data.toList, false)).2.1.length ≤ a0.data.toList.length := numF_rest (a0.data.toList, false)
  have HN := Lib.hid fun W (h : FA (w.heap.size + 1) (a0.data.toList, false) W) => number_any (w.heap.size + 1) (a0.data.toList, false) W h hl
  rw [hkk] at HN
  rw [← hs0] at HN hl0
  have HQ := Lib.hid fun (k : Nat) (W : World) (h : FA (w.heap.size + 1) (numK k s0) W) => number_any (w.heap.size + 1) (numK k s0) W h (by have := numK_rest k s0; omega)
  simp only [← hq] at HQ
  have h4 := numK_rest 4 s0
  have HT := Lib.hid fun (W : World) (h : FA (w.heap.size + 1) (numK 4 s0) W) => ftime_any (w.heap.size + 1) (numK 4 s0) W h (by omega)
  rw [← hdue] at HT
  have h5 := timeF_rest 6 0 (numK 4 s0)
  have HL := Lib.hid fun W (h : FA (w.heap.size + 1) (timeF 6 0 (numK 4 s0)).2 W) => flabels_any (w.heap.size + 1) (timeF 6 0 (numK 4 s0)).2 W h (by omega)
  rw [← hL] at HL
  obtain ⟨s5, hs5⟩ : ∃ q, q = (timeF 6 0 (numK 4 s0)).2 := ⟨_, rfl⟩
  rw [← hs5] at HT HL
  have HR := Lib.hid HR
  clear hkk hL hdue hq h4 h5 hs5
  unfold recC at *
  clear hs0
  go_enter Try.func30, Try.ntmps30
  go_wp2_with fail
  refine (HN.out _ ?_).mono ?_
  case refine_1 =>
    have := blk_new (w.alloc (.cells (recC 0 (.slice none 0 0) 0 0 0 0 0 (.slice none 0 0) 0 0 (.slice none 0 0)) 50)) (.cells #[.string a0, .bool false] 81)
    rw [size_alloc] at this
    unfold FA
    rw [tx_of]
    exact this
  rintro e w1 ⟨rfl, hp⟩
  have hZ := hp.stay (blk_new1 w (.cells (recC 0 (.slice none 0 0) 0 0 0 0 0 (.slice none 0 0) 0 0 (.slice none 0 0)) 50) (.cells #[.string a0, .bool false] 81)) (by omega)
  have hsz1 := hp.2.size
  simp only [size_alloc] at hsz1
  have HP1 := Lib.hid hp
  have HZ := Lib.hid hZ
  clear hp hZ HN
  have hbw : Below w.heap.size w w1 := ⟨HP1.out.2.os, HP1.out.2.tape, HP1.out.2.output, by omega, fun i hi => (HP1.out.2.block i (by simp only [size_alloc]; omega) (by simp; omega)).trans ((Lib.alloc_old _ _ _ (by rw [size_alloc]; omega)).trans (Lib.alloc_old _ _ _ hi))⟩
  have HX := Lib.hid (blk_new w1 (.cells (recC 1 (.slice none 0 0) 0 0 0 0 0 (.slice none 0 0) 0 0 (.slice none 0 0)) 50))
  have hZ := (Lib.alloc_old w1 (.cells (recC 1 (.slice none 0 0) 0 0 0 0 0 (.slice none 0 0) 0 0 (.slice none 0 0)) 50) _ (blk_lt HZ.out)).trans HZ.out
  have HF := Lib.hid (HP1.out.1.far (World.grownBy_alloc w1 (.cells (recC 1 (.slice none 0 0) 0 0 0 0 0 (.slice none 0 0) 0 0 (.slice none 0 0)) 50) none) (by simp))
  have HB := Lib.hid (hbw.alloc (by omega) (.cells (recC 1 (.slice none 0 0) 0 0 0 0 0 (.slice none 0 0) 0 0 (.slice none 0 0)) 50))
  clear HZ hbw
  have HZ := Lib.hid hZ
  unfold recC at *
  clear hZ HP1
  go_upto_region 4 with fail
  refine name_world (fun W hW => ?_)
  rw [← hW] at HX HZ HF HB
  clear hW
  obtain ⟨r, hr⟩ : ∃ r, r = w1.heap.size := ⟨_, rfl⟩
  simp only [← hr]
  rw [← hr] at HX hsz1
  clear hr
  go_wp2_with fail
  go_region_law (fail)
  go_simp
  go_wp2_with fail
  have hPP := blk_new W (.cells #[.pointer (some ⟨r, 2, none⟩), .pointer (some ⟨r, 3, none⟩), .pointer (some ⟨r, 4, none⟩), .pointer (some ⟨r, 6, none⟩)] 84)
  have hX := (Lib.alloc_old W (.cells #[.pointer (some ⟨r, 2, none⟩), .pointer (some ⟨r, 3, none⟩), .pointer (some ⟨r, 4, none⟩), .pointer (some ⟨r, 6, none⟩)] 84) r (blk_lt HX.out)).trans HX.out
  have hZ := (Lib.alloc_old W (.cells #[.pointer (some ⟨r, 2, none⟩), .pointer (some ⟨r, 3, none⟩), .pointer (some ⟨r, 4, none⟩), .pointer (some ⟨r, 6, none⟩)] 84) w.heap.size (blk_lt HZ.out)).trans HZ.out
  have hF := HF.out.far (World.grownBy_alloc W (.cells #[.pointer (some ⟨r, 2, none⟩), .pointer (some ⟨r, 3, none⟩), .pointer (some ⟨r, 4, none⟩), .pointer (some ⟨r, 6, none⟩)] 84) none) (fun _ e => nomatch e)
  have hB := (HB.out.alloc HB.out.size (.cells #[.pointer (some ⟨r, 2, none⟩), .pointer (some ⟨r, 3, none⟩), .pointer (some ⟨r, 4, none⟩), .pointer (some ⟨r, 6, none⟩)] 84)).drew
  have hgp := blk_lt HF.out
  have hrp := blk_lt HX.out
  refine name_world (fun W3 hW3 => ?_)
  have HPP := Lib.hid (show W3.heap[W.heap.size]? = some (.cells #[.pointer (some ⟨r, 2, none⟩), .pointer (some ⟨r, 3, none⟩), .pointer (some ⟨r, 4, none⟩), .pointer (some ⟨r, 6, none⟩)] 84 (0, 0)) by rw [hW3]; exact hPP)
  have HX3 := Lib.hid (show W3.heap[r]? = some (.cells (rk q 0) 50 (0, 0)) by rw [hW3]; exact hX)
  have HZ3 := Lib.hid (show W3.heap[w.heap.size]? = some (.cells (#[.int .i64 0, .slice none 0 0, .int .i64 0, .int .i64 0, .int .i64 0, .int .i64 0, .int .i64 0, .slice none 0 0, .int .i64 0, .int .i64 0, .slice none 0 0]) 50 (0, 0)) by rw [hW3]; exact hZ)
  have HF3 := Lib.hid (show FA (w.heap.size + 1) (numK 0 s0) W3 by rw [hW3]; exact hF)
  have HB3 := Lib.hid (show Below w.heap.size w W3 by rw [hW3]; exact hB)
  obtain ⟨p, hp⟩ : ∃ p, p = W.heap.size := ⟨_, rfl⟩
  rw [← hp] at HPP hgp hrp
  simp only [← hp]
  clear hp hW3 hPP hX hZ hF hB HX HZ HF HB
  go_loopw [35] (fun i wr => ∃ k : Nat, k ≤ 4 ∧ i = .int .i64 k ∧ Hid (wr.heap[p]? = some (.cells #[.pointer (some ⟨r, 2, none⟩), .pointer (some ⟨r, 3, none⟩), .pointer (some ⟨r, 4, none⟩), .pointer (some ⟨r, 6, none⟩)] 84 (0, 0))) ∧ Hid (wr.heap[r]? = some (.cells (rk q k) 50 (0, 0))) ∧ Hid (wr.heap[w.heap.size]? = some (.cells (#[.int .i64 0, .slice none 0 0, .int .i64 0, .int .i64 0, .int .i64 0, .int .i64 0, .int .i64 0, .slice none 0 0, .int .i64 0, .int .i64 0, .slice none 0 0]) 50 (0, 0))) ∧ Hid (FA (w.heap.size + 1) (numK k s0) wr) ∧ Hid (Below w.heap.size w wr)) (fun i _ => 4 - (intOf i).toNat)
  case atStart => exact ⟨0, by omega, rfl, HPP, HX3, HZ3, HF3, HB3⟩
  case round =>
    obtain ⟨k, hk, rfl, HPP, HX, HZ, HF, HB⟩ := hrel
    clear HX3 HZ3 HF3 HB3
    by_cases hlt : k < 4
    · have hN := HQ.out k wr HF.out
      obtain rfl | rfl | rfl | rfl : k = 0 ∨ k = 1 ∨ k = 2 ∨ k = 3 := by omega
      · have p0 : wr.cell? ⟨p, 0, none⟩ = some (.pointer (some ⟨r, 2, none⟩)) := blk_cell HPP.out rfl
        go_wp2_with fail
        refine hN.mono ?_
        rintro e w2 ⟨rfl, hp⟩
        have hX := hp.stay HX.out (by omega)
        have hP2 := hp.stay HPP.out (by omega)
        have hZ := hp.stay HZ.out (by omega)
        have x0 := blk_cell hX (j := 2) rfl
        have xf := Lib.frozen_of_heap hX 2
        have hB := HB.out.grown hp.2 HB.out.size (fun k e => by obtain rfl := Option.some.inj e; omega)
        have HX2 := Lib.hid hX
        have HP2 := Lib.hid hP2
        have HZ2 := Lib.hid hZ
        have HB2 := Lib.hid hB
        have HF2 := Lib.hid hp.1
        clear hX hP2 hZ hB hp HX HPP HZ HF HB hN
        go_wp2_with fail
        have hfar : ∀ b, b ≠ r → (w2.setCell ⟨r, 2, none⟩ (.int .i64 (q 0))).heap[b]? = w2.heap[b]? := fun b hb => Below.heap_setCell _ ⟨r, 2, none⟩ _ b hb
        refine ⟨⟨0 + 1, by omega, by go_num, Lib.hid ((hfar p (by omega)).trans HP2.out), Lib.hid (set_heap (j := 2) HX2.out (.int .i64 (q 0))), Lib.hid ((hfar w.heap.size (by omega)).trans HZ2.out), Lib.hid ((hfar (w.heap.size + 1) (by omega)).trans HF2.out), Lib.hid (set_bel HB2.out (by omega))⟩, by simp [intOf]⟩
      · have p0 : wr.cell? ⟨p, 1, none⟩ = some (.pointer (some ⟨r, 3, none⟩)) := blk_cell HPP.out rfl
        go_wp2_with fail
        refine hN.mono ?_
        rintro e w2 ⟨rfl, hp⟩
        have hX := hp.stay HX.out (by omega)
        have hP2 := hp.stay HPP.out (by omega)
        have hZ := hp.stay HZ.out (by omega)
        have x0 := blk_cell hX (j := 3) rfl
        have xf := Lib.frozen_of_heap hX 3
        have hB := HB.out.grown hp.2 HB.out.size (fun k e => by obtain rfl := Option.some.inj e; omega)
        have HX2 := Lib.hid hX
        have HP2 := Lib.hid hP2
        have HZ2 := Lib.hid hZ
        have HB2 := Lib.hid hB
        have HF2 := Lib.hid hp.1
        clear hX hP2 hZ hB hp HX HPP HZ HF HB hN
        go_wp2_with fail
        have hfar : ∀ b, b ≠ r → (w2.setCell ⟨r, 3, none⟩ (.int .i64 (q 1))).heap[b]? = w2.heap[b]? := fun b hb => Below.heap_setCell _ ⟨r, 3, none⟩ _ b hb
        refine ⟨⟨1 + 1, by omega, by go_num, Lib.hid ((hfar p (by omega)).trans HP2.out), Lib.hid (set_heap (j := 3) HX2.out (.int .i64 (q 1))), Lib.hid ((hfar w.heap.size (by omega)).trans HZ2.out), Lib.hid ((hfar (w.heap.size + 1) (by omega)).trans HF2.out), Lib.hid (set_bel HB2.out (by omega))⟩, by simp [intOf]⟩
      · have p0 : wr.cell? ⟨p, 2, none⟩ = some (.pointer (some ⟨r, 4, none⟩)) := blk_cell HPP.out rfl
        go_wp2_with fail
        refine hN.mono ?_
        rintro e w2 ⟨rfl, hp⟩
        have hX := hp.stay HX.out (by omega)
        have hP2 := hp.stay HPP.out (by omega)
        have hZ := hp.stay HZ.out (by omega)
        have x0 := blk_cell hX (j := 4) rfl
        have xf := Lib.frozen_of_heap hX 4
        have hB := HB.out.grown hp.2 HB.out.size (fun k e => by obtain rfl := Option.some.inj e; omega)
        have HX2 := Lib.hid hX
        have HP2 := Lib.hid hP2
        have HZ2 := Lib.hid hZ
        have HB2 := Lib.hid hB
        have HF2 := Lib.hid hp.1
        clear hX hP2 hZ hB hp HX HPP HZ HF HB hN
        go_wp2_with fail
        have hfar : ∀ b, b ≠ r → (w2.setCell ⟨r, 4, none⟩ (.int .i64 (q 2))).heap[b]? = w2.heap[b]? := fun b hb => Below.heap_setCell _ ⟨r, 4, none⟩ _ b hb
        refine ⟨⟨2 + 1, by omega, by go_num, Lib.hid ((hfar p (by omega)).trans HP2.out), Lib.hid (set_heap (j := 4) HX2.out (.int .i64 (q 2))), Lib.hid ((hfar w.heap.size (by omega)).trans HZ2.out), Lib.hid ((hfar (w.heap.size + 1) (by omega)).trans HF2.out), Lib.hid (set_bel HB2.out (by omega))⟩, by simp [intOf]⟩
      · have p0 : wr.cell? ⟨p, 3, none⟩ = some (.pointer (some ⟨r, 6, none⟩)) := blk_cell HPP.out rfl
        go_wp2_with fail
        refine hN.mono ?_
        rintro e w2 ⟨rfl, hp⟩
        have hX := hp.stay HX.out (by omega)
        have hP2 := hp.stay HPP.out (by omega)
        have hZ := hp.stay HZ.out (by omega)
        have x0 := blk_cell hX (j := 6) rfl
        have xf := Lib.frozen_of_heap hX 6
        have hB := HB.out.grown hp.2 HB.out.size (fun k e => by obtain rfl := Option.some.inj e; omega)
        have HX2 := Lib.hid hX
        have HP2 := Lib.hid hP2
        have HZ2 := Lib.hid hZ
        have HB2 := Lib.hid hB
        have HF2 := Lib.hid hp.1
        clear hX hP2 hZ hB hp HX HPP HZ HF HB hN
        go_wp2_with fail
        have hfar : ∀ b, b ≠ r → (w2.setCell ⟨r, 6, none⟩ (.int .i64 (q 3))).heap[b]? = w2.heap[b]? := fun b hb => Below.heap_setCell _ ⟨r, 6, none⟩ _ b hb
        refine ⟨⟨3 + 1, by omega, by go_num, Lib.hid ((hfar p (by omega)).trans HP2.out), Lib.hid (set_heap (j := 6) HX2.out (.int .i64 (q 3))), Lib.hid ((hfar w.heap.size (by omega)).trans HZ2.out), Lib.hid ((hfar (w.heap.size + 1) (by omega)).trans HF2.out), Lib.hid (set_bel HB2.out (by omega))⟩, by simp [intOf]⟩
    · obtain rfl : k = 4 := by omega
      clear HQ hlt hk HPP hgp hrp
      have HX0 := Lib.hid (show wr.heap[r]? = some (.cells #[.int .i64 1, .slice none 0 0, .int .i64 (q 0), .int .i64 (q 1), .int .i64 (q 2), .int .i64 0, .int .i64 (q 3), .slice none 0 0, .int .i64 0, .int .i64 0, .slice none 0 0] 50 (0, 0)) from HX.out)
      clear HX
      go_wp2_with fail
      refine (HT.out wr HF.out).mono ?_
      rintro e w4 ⟨rfl, hp⟩
      have hX := hp.stay HX0.out (by omega)
      have hZ := hp.stay HZ.out (by omega)
      have x5 := blk_cell hX (j := 5) rfl
      have xf := Lib.frozen_of_heap hX 5
      have hB := HB.out.grown hp.2 HB.out.size (fun k e => by obtain rfl := Option.some.inj e; omega)
      have HX1 := Lib.hid (set_heap (j := 5) hX (.int .i64 due))
      obtain ⟨W5, hW5⟩ : ∃ z, z = w4.setCell ⟨r, 5, none⟩ (.int .i64 due) := ⟨_, rfl⟩
      have hfar : ∀ b, b ≠ r → W5.heap[b]? = w4.heap[b]? := fun b hb => by rw [hW5]; exact Below.heap_setCell _ ⟨r, 5, none⟩ _ b hb
      have HZ1 := Lib.hid ((hfar w.heap.size (by omega)).trans hZ)
      have HF1 := Lib.hid (show FA (w.heap.size + 1) s5 W5 from (hfar (w.heap.size + 1) (by omega)).trans hp.1)
      have HB1 := Lib.hid (set_bel (j := 5) (u := .int .i64 due) hB (show w.heap.size ≤ r by omega))
      rw [← hW5] at HX1 HB1
      have HH5 := Lib.hid hW5
      clear hX hZ hB hp HX0 HZ HF HB HT hfar hW5
      go_wp2_with fail
      rw [← HH5.out]
      clear HH5
      refine (HL.out W5 HF1.out).mono ?_
      rintro e W1 ⟨v, rfl, HO, hp⟩
      have HO := Lib.hid (row_mono HO.out HB1.out.size)
      have hZ := hp.stay HZ1.out (by omega)
      have hX := hp.stay HX1.out (by omega)
      have hzr := row_type HO.out hZ (by decide)
      have hxr := row_type HO.out hX (by decide)
      have hB := HB1.out.grown hp.2 HB1.out.size (fun k e => by obtain rfl := Option.some.inj e; omega)
      have xf := Lib.frozen_of_heap hX 1
      have x1 := blk_cell hX (j := 1) rfl
      obtain ⟨A, c, rfl⟩ := row_form HO.out
      have HX6 := Lib.hid hX
      have HZ6 := Lib.hid hZ
      have HB6 := Lib.hid hB
      have HP6 := Lib.hid hp
      clear hX hZ hB hp HX1 HZ1 HB1 HF1
      clear x5
      go_upto_region 17 with fail
      have HX := Lib.hid (show (W1.setCell ⟨r, 1, none⟩ (.slice A L.length c)).heap[r]? = some (.cells #[.int .i64 1, .slice A L.length c, .int .i64 (q 0), .int .i64 (q 1), .int .i64 (q 2), .int .i64 due, .int .i64 (q 3), .slice none 0 0, .int .i64 0, .int .i64 0, .slice none 0 0] 50 (0, 0)) from set_heap (j := 1) HX6.out (.slice A L.length c))
      have HZ := Lib.hid ((Below.heap_setCell W1 ⟨r, 1, none⟩ (.slice A L.length c) w.heap.size (fun e => by have : w.heap.size = r := e; omega)).trans HZ6.out)
      have HF := Lib.hid (show FA (w.heap.size + 1) s (W1.setCell ⟨r, 1, none⟩ (.slice A L.length c)) from (Below.heap_setCell W1 ⟨r, 1, none⟩ (.slice A L.length c) (w.heap.size + 1) (fun e => by have : w.heap.size + 1 = r := e; omega)).trans HP6.out.1)
      have HB := Lib.hid (set_bel (j := 1) (u := .slice A L.length c) HB6.out (show w.heap.size ≤ r by omega))
      have HO := Lib.hid (row_set (j := 1) HO.out hxr (.slice A L.length c))
      clear HX6 HZ6 HB6 HP6 hxr
      refine name_world (fun W2 hW => ?_)
      rw [← hW] at HX HZ HF HB HO
      clear hW
      have cg0 : W2.cell? ⟨w.heap.size + 1, 0, none⟩ = some (.string (tx s.1)) := blk_cell HF.out rfl
      have cg1 : W2.cell? ⟨w.heap.size + 1, 1, none⟩ = some (.bool s.2) := blk_cell HF.out rfl
      have hgW := blk_lt HF.out
      have zf := fun j => Lib.frozen_of_heap HZ.out j
      have z0 : W2.cell? ⟨w.heap.size, 0, none⟩ = some (.int .i64 0) := blk_cell HZ.out rfl
      have z1 : W2.cell? ⟨w.heap.size, 1, none⟩ = some (.slice none 0 0) := blk_cell HZ.out rfl
      have z2 : W2.cell? ⟨w.heap.size, 2, none⟩ = some (.int .i64 0) := blk_cell HZ.out rfl
      have z3 : W2.cell? ⟨w.heap.size, 3, none⟩ = some (.int .i64 0) := blk_cell HZ.out rfl
      have z4 : W2.cell? ⟨w.heap.size, 4, none⟩ = some (.int .i64 0) := blk_cell HZ.out rfl
      have z5 : W2.cell? ⟨w.heap.size, 5, none⟩ = some (.int .i64 0) := blk_cell HZ.out rfl
      have z6 : W2.cell? ⟨w.heap.size, 6, none⟩ = some (.int .i64 0) := blk_cell HZ.out rfl
      have z7 : W2.cell? ⟨w.heap.size, 7, none⟩ = some (.slice none 0 0) := blk_cell HZ.out rfl
      have z8 : W2.cell? ⟨w.heap.size, 8, none⟩ = some (.int .i64 0) := blk_cell HZ.out rfl
      have z9 : W2.cell? ⟨w.heap.size, 9, none⟩ = some (.int .i64 0) := blk_cell HZ.out rfl
      have z10 : W2.cell? ⟨w.heap.size, 10, none⟩ = some (.slice none 0 0) := blk_cell HZ.out rfl
      have x0 : W2.cell? ⟨r, 0, none⟩ = some (.int .i64 1) := blk_cell HX.out rfl
      have x1 : W2.cell? ⟨r, 1, none⟩ = some (.slice A L.length c) := blk_cell HX.out rfl
      have x2 : W2.cell? ⟨r, 2, none⟩ = some (.int .i64 (q 0)) := blk_cell HX.out rfl
      have x3 : W2.cell? ⟨r, 3, none⟩ = some (.int .i64 (q 1)) := blk_cell HX.out rfl
      have x4 : W2.cell? ⟨r, 4, none⟩ = some (.int .i64 (q 2)) := blk_cell HX.out rfl
      have x5 : W2.cell? ⟨r, 5, none⟩ = some (.int .i64 due) := blk_cell HX.out rfl
      have x6 : W2.cell? ⟨r, 6, none⟩ = some (.int .i64 (q 3)) := blk_cell HX.out rfl
      have x7 : W2.cell? ⟨r, 7, none⟩ = some (.slice none 0 0) := blk_cell HX.out rfl
      have x8 : W2.cell? ⟨r, 8, none⟩ = some (.int .i64 0) := blk_cell HX.out rfl
      have x9 : W2.cell? ⟨r, 9, none⟩ = some (.int .i64 0) := blk_cell HX.out rfl
      have x10 : W2.cell? ⟨r, 10, none⟩ = some (.slice none 0 0) := blk_cell HX.out rfl
      rcases Bool.eq_false_or_eq_true s.2 with hb | hb
      · rw [hb] at cg1
        go_wp2_with fail
        refine bodyPost_ret (v := .tuple #[.agg #[.int .i64 0, .slice none 0 0, .int .i64 0, .int .i64 0, .int .i64 0, .int .i64 0, .int .i64 0, .slice none 0 0, .int .i64 0, .int .i64 0, .slice none 0 0], .int .i64 13]) ?_ rfl ?_
        · simp [results, Try.results30, go_sem, z0, z1, z2, z3, z4, z5, z6, z7, z8, z9, z10]
        · exact ⟨_, _, getE1 hb, Lib.hid (by (with_reducible (repeat (refine row_set ?_ hzr _))); exact HO.out), by (with_reducible (repeat (refine set_bel ?_ (Nat.le_refl _)))); exact HB.out⟩
      · rw [hb] at cg1
        rcases Bool.eq_false_or_eq_true s.1.isEmpty with he | he
        · have hne2 := tx_nil he
          go_wp2_with fail
          refine (HR.out W2 A c HO.out).mono ?_
          rintro e w9 ⟨rfl, hbR⟩
          have HZ9 := Lib.hid ((hbR.block _ (blk_lt HZ.out)).trans HZ.out)
          have HX9 := Lib.hid ((hbR.block _ (blk_lt HX.out)).trans HX.out)
          have hsz9 := hbR.size
          have HO9 := Lib.hid (row_bel HO.out hbR)
          have HB9 := Lib.hid (HB.out.trans (hbR.mono HB.out.size))
          clear z0 z1 z2 z3 z4 z5 z6 z7 z8 z9 z10 x0 x1 x2 x3 x4 x5 x6 x7 x8 x9 x10
          clear hbR zf
          have zf := fun j => Lib.frozen_of_heap HZ9.out j
          have z0 : w9.cell? ⟨w.heap.size, 0, none⟩ = some (.int .i64 0) := blk_cell HZ9.out rfl
          have z1 : w9.cell? ⟨w.heap.size, 1, none⟩ = some (.slice none 0 0) := blk_cell HZ9.out rfl
          have z2 : w9.cell? ⟨w.heap.size, 2, none⟩ = some (.int .i64 0) := blk_cell HZ9.out rfl
          have z3 : w9.cell? ⟨w.heap.size, 3, none⟩ = some (.int .i64 0) := blk_cell HZ9.out rfl
          have z4 : w9.cell? ⟨w.heap.size, 4, none⟩ = some (.int .i64 0) := blk_cell HZ9.out rfl
          have z5 : w9.cell? ⟨w.heap.size, 5, none⟩ = some (.int .i64 0) := blk_cell HZ9.out rfl
          have z6 : w9.cell? ⟨w.heap.size, 6, none⟩ = some (.int .i64 0) := blk_cell HZ9.out rfl
          have z7 : w9.cell? ⟨w.heap.size, 7, none⟩ = some (.slice none 0 0) := blk_cell HZ9.out rfl
          have z8 : w9.cell? ⟨w.heap.size, 8, none⟩ = some (.int .i64 0) := blk_cell HZ9.out rfl
          have z9 : w9.cell? ⟨w.heap.size, 9, none⟩ = some (.int .i64 0) := blk_cell HZ9.out rfl
          have z10 : w9.cell? ⟨w.heap.size, 10, none⟩ = some (.slice none 0 0) := blk_cell HZ9.out rfl
          have x0 : w9.cell? ⟨r, 0, none⟩ = some (.int .i64 1) := blk_cell HX9.out rfl
          have x1 : w9.cell? ⟨r, 1, none⟩ = some (.slice A L.length c) := blk_cell HX9.out rfl
          have x2 : w9.cell? ⟨r, 2, none⟩ = some (.int .i64 (q 0)) := blk_cell HX9.out rfl
          have x3 : w9.cell? ⟨r, 3, none⟩ = some (.int .i64 (q 1)) := blk_cell HX9.out rfl
          have x4 : w9.cell? ⟨r, 4, none⟩ = some (.int .i64 (q 2)) := blk_cell HX9.out rfl
          have x5 : w9.cell? ⟨r, 5, none⟩ = some (.int .i64 due) := blk_cell HX9.out rfl
          have x6 : w9.cell? ⟨r, 6, none⟩ = some (.int .i64 (q 3)) := blk_cell HX9.out rfl
          have x7 : w9.cell? ⟨r, 7, none⟩ = some (.slice none 0 0) := blk_cell HX9.out rfl
          have x8 : w9.cell? ⟨r, 8, none⟩ = some (.int .i64 0) := blk_cell HX9.out rfl
          have x9 : w9.cell? ⟨r, 9, none⟩ = some (.int .i64 0) := blk_cell HX9.out rfl
          have x10 : w9.cell? ⟨r, 10, none⟩ = some (.slice none 0 0) := blk_cell HX9.out rfl
          cases rb
          · skip
            go_wp2_with fail
            refine bodyPost_ret (v := .tuple #[.agg #[.int .i64 0, .slice none 0 0, .int .i64 0, .int .i64 0, .int .i64 0, .int .i64 0, .int .i64 0, .slice none 0 0, .int .i64 0, .int .i64 0, .slice none 0 0], .int .i64 13]) ?_ rfl ?_
            · simp [results, Try.results30, go_sem, z0, z1, z2, z3, z4, z5, z6, z7, z8, z9, z10]
            · exact ⟨_, _, getE3, Lib.hid (by (with_reducible (repeat (refine row_set ?_ hzr _))); exact HO9.out), by (with_reducible (repeat (refine set_bel ?_ (Nat.le_refl _)))); exact HB9.out⟩
          · skip
            go_wp2_with fail
            refine bodyPost_ret (v := .tuple #[.agg #[.int .i64 1, .slice A L.length c, .int .i64 (q 0), .int .i64 (q 1), .int .i64 (q 2), .int .i64 due, .int .i64 (q 3), .slice none 0 0, .int .i64 0, .int .i64 0, .slice none 0 0], .int .i64 0]) ?_ rfl ?_
            · simp [results, Try.results30, go_sem, z0, z1, z2, z3, z4, z5, z6, z7, z8, z9, z10, x0, x1, x2, x3, x4, x5, x6, x7, x8, x9, x10]
            · exact ⟨_, _, getE4 hb he, Lib.hid (by (with_reducible (repeat (refine row_set ?_ hzr _))); exact HO9.out), by (with_reducible (repeat (refine set_bel ?_ (Nat.le_refl _)))); exact HB9.out⟩
        · have hne2 := tx_cons he
          go_wp2_with fail
          refine bodyPost_ret (v := .tuple #[.agg #[.int .i64 0, .slice none 0 0, .int .i64 0, .int .i64 0, .int .i64 0, .int .i64 0, .int .i64 0, .slice none 0 0, .int .i64 0, .int .i64 0, .slice none 0 0], .int .i64 13]) ?_ rfl ?_
          · simp [results, Try.results30, go_sem, z0, z1, z2, z3, z4, z5, z6, z7, z8, z9, z10]
          · exact ⟨_, _, getE2 he, Lib.hid (by (with_reducible (repeat (refine row_set ?_ hzr _))); exact HO.out), by (with_reducible (repeat (refine set_bel ?_ (Nat.le_refl _)))); exact HB.out⟩
end
end Go.Proofs.Ytndgollcganhmaa
namespace Go.Proofs.YtndgollcganhmaaQ.P
open Go.RowKit Go.Proofs.YtndgollcganhmaaW.PrintWords Go.Proofs.Ytndgollcganhmaa
structure Rc where
  k : Int
  l1 : List Lab
  rt : Int
  pl : Int
  tr : Int
  due : Int
  st : Int
  l7 : List Lab
  fr : Int
  tt : Int
  l10 : List Mat
def Rc.zero : Rc := ⟨0, [], 0, 0, 0, 0, 0, [], 0, 0, []⟩
def getP (l : List UInt8) : Rc × Rst :=
  let r0 : Rst := (l, false)
  let k := (numF r0).1
  let s := (numF r0).2
  if k = 1 then
    let t := timeF 6 0 (numK 4 s)
    let g := labsF (numF t.2).1 [] (numF t.2).2
    (⟨1, g.1, (numF (numK 0 s)).1, (numF (numK 1 s)).1, (numF (numK 2 s)).1, t.1, (numF (numK 3 s)).1, [], 0, 0, []⟩, g.2)
  else if k = 2 then
    let g := labsF (numF s).1 [] (numF s).2
    (⟨2, [], 0, 0, 0, 0, 0, g.1, 0, 0, []⟩, g.2)
  else if k = 3 then
    let t := timeF 6 0 s
    let u := timeF 6 0 t.2
    let g := matsF (numF u.2).1 [] (numF u.2).2
    (⟨3, [], 0, 0, 0, 0, 0, [], t.1, u.1, g.1⟩, g.2)
  else (⟨k, [], 0, 0, 0, 0, 0, [], 0, 0, []⟩, s)
def Rc.right (r : Rc) : Option Bool := code_Right.f r.k (r.l1.map ofLab) r.rt r.pl r.tr r.due r.st (r.l7.map ofLab) r.fr r.tt (r.l10.map ofMat)
def code_Get.f (a0 : ByteArray) : Option (Int × (List (S41)) × Int × Int × Int × Int × Int × (List (S41)) × Int × Int × (List (S35)) × Int) :=
  if a0.size ≤ 100000 then
    match (getP a0.data.toList).1.right with
    | some b =>
      if ((getP a0.data.toList).2.2 || !(getP a0.data.toList).2.1.isEmpty || !b) = true then some (0, [], 0, 0, 0, 0, 0, [], 0, 0, [], 13)
      else
        let r := (getP a0.data.toList).1
        some (r.k, r.l1.map ofLab, r.rt, r.pl, r.tr, r.due, r.st, r.l7.map ofLab, r.fr, r.tt, r.l10.map ofMat, 0)
    | none => none
  else none
theorem mats_r {w : World} {B : Nat} {v : Value} {xs : List Mat} (h : w.ownsRow B 35 3 v xs.length (matsC xs)) : Kd.R k35 35 w B (fun _ => True) v (xs.map ofMat) :=
  R_of_own (g := ofMat) (en := matC) (fun w b ok y => k35_mkM w b ok (ofMat y)) (fun _ => rfl) h
theorem R_nilC {α : Type} {d : Kd α} {w : World} : d.C w none 0 [] := by
  obtain ⟨A, c, h1, _, h2⟩ := Kd.R_reads (Kd.R_nil d 0 w 0 (fun _ => True))
  simp at h1
  obtain ⟨rfl, _⟩ := h1
  exact h2
theorem labs_own {w : World} {B c : Nat} {A : Option Addr} {xs : List Lab} (h : w.ownsRow B 41 2 (.slice A xs.length c) xs.length (labsC xs)) : Kd.C k41 w A (xs.map ofLab).length (xs.map ofLab) ∧ (xs.map ofLab).length ≤ c := by
  obtain ⟨h1, h2, h3⟩ := Kd.R_reads' (labs_r h)
  exact ⟨h3, by rw [← h1]; exact h2⟩
theorem mats_own {w : World} {B c : Nat} {A : Option Addr} {xs : List Mat} (h : w.ownsRow B 35 3 (.slice A xs.length c) xs.length (matsC xs)) : Kd.C k35 w A (xs.map ofMat).length (xs.map ofMat) ∧ (xs.map ofMat).length ≤ c := by
  obtain ⟨h1, h2, h3⟩ := Kd.R_reads' (mats_r h)
  exact ⟨h3, by rw [← h1]; exact h2⟩
def Rc.val (r : Rc) (v1 v7 v10 : Value) : Value := .agg (recC r.k v1 r.rt r.pl r.tr r.due r.st v7 r.fr r.tt v10)
def Rc.own (r : Rc) (w : World) (B : Nat) (v1 v7 v10 : Value) : Prop :=
  Kd.R k41 41 w B (fun k_ => some k_ ≠ (v7 : Value).ownBlock) v1 (r.l1.map ofLab) ∧ Kd.R k41 41 w B (fun k_ => some k_ ≠ (v1 : Value).ownBlock) v7 (r.l7.map ofLab) ∧ Kd.R k35 35 w B (fun _ => True) v10 (r.l10.map ofMat)
theorem nil_block {k : Nat} : some k ≠ (Value.slice none 0 0).ownBlock := by simp [Value.ownBlock]
set_option maxHeartbeats 1000000 in
theorem get_core (a0 : ByteArray) (b : Bool) (w : World) (hl : a0.size ≤ 100000) (hb : (getP a0.data.toList).1.right = some b) :
    Calls Try.prog 30 #[.string a0] w fun e w' => ∃ v1 v7 v10 : Value, e = getE (getP a0.data.toList).2 b (Rc.zero.val (.slice none 0 0) (.slice none 0 0) (.slice none 0 0)) ((getP a0.data.toList).1.val v1 v7 v10) ∧ (getP a0.data.toList).1.own w' w.heap.size v1 v7 v10 ∧ Below w.heap.size w w' := by
  have hl' : a0.data.toList.length ≤ 100000 := by rw [len_data]; exact hl
  unfold getP at hb ⊢
  by_cases h1 : (numF (a0.data.toList, false)).1 = 1
  · simp only [h1, if_true] at hb ⊢
    have H := get1_any a0 w hl' h1 _ rfl (fun k => (numF (numK k (numF (a0.data.toList, false)).2)).1) (fun _ => rfl) _ rfl _ _ rfl b (fun W A c ho => by
      have hc := labs_own ho
      have := code_Right.calls 1 A c _ _ _ _ _ _ none 0 [] 0 0 none 0 [] b W hc.1 hc.2 R_nilC (Nat.le_refl _) R_nilC (Nat.le_refl _) hb
      rw [List.length_map] at this
      exact this)
    refine H.mono ?_
    rintro e w' ⟨A, c, he, ho, hbw⟩
    exact ⟨_, _, _, he, ⟨Kd.R_mono (labs_r ho.out) (fun _ _ => nil_block), Kd.R_nil _ _ _ _ _, Kd.R_nil _ _ _ _ _⟩, hbw⟩
  · by_cases h2 : (numF (a0.data.toList, false)).1 = 2
    · rw [if_neg h1, if_pos h2] at hb ⊢
      have H := get2_any a0 w hl' h2 b (fun W A c ho => by
        have hc := labs_own ho
        have := code_Right.calls 2 none 0 [] _ _ _ _ _ A c _ _ _ none 0 [] b W R_nilC (Nat.le_refl _) hc.1 hc.2 R_nilC (Nat.le_refl _) hb
        rw [List.length_map] at this
        exact this)
      refine H.mono ?_
      rintro e w' ⟨A, c, he, ho, hbw⟩
      exact ⟨_, _, _, he, ⟨Kd.R_nil _ _ _ _ _, Kd.R_mono (labs_r ho.out) (fun _ _ => nil_block), Kd.R_nil _ _ _ _ _⟩, hbw⟩
    · by_cases h3 : (numF (a0.data.toList, false)).1 = 3
      · rw [if_neg h1, if_neg h2, if_pos h3] at hb ⊢
        have H := get3_any a0 w hl' h3 _ rfl _ _ rfl rfl _ _ rfl b (fun W A c ho => by
          have hc := mats_own ho
          have := code_Right.calls 3 none 0 [] _ _ _ _ _ none 0 [] _ _ A c _ b W R_nilC (Nat.le_refl _) R_nilC (Nat.le_refl _) hc.1 hc.2 hb
          rw [List.length_map] at this
          exact this)
        refine H.mono ?_
        rintro e w' ⟨A, c, he, ho, hbw⟩
        exact ⟨_, _, _, he, ⟨Kd.R_nil _ _ _ _ _, Kd.R_nil _ _ _ _ _, mats_r ho.out⟩, hbw⟩
      · rw [if_neg h1, if_neg h2, if_neg h3] at hb ⊢
        have H := get0_any a0 w hl' ⟨h1, h2, h3⟩ b (fun W => code_Right.calls (numF (a0.data.toList, false)).1 none 0 [] 0 0 0 0 0 none 0 [] 0 0 none 0 [] b W R_nilC (Nat.le_refl _) R_nilC (Nat.le_refl _) R_nilC (Nat.le_refl _) hb)
        refine H.mono ?_
        rintro e w' ⟨he, hbw⟩
        exact ⟨_, _, _, he, ⟨Kd.R_nil _ _ _ _ _, Kd.R_nil _ _ _ _ _, Kd.R_nil _ _ _ _ _⟩, hbw⟩
set_option maxHeartbeats 1000000 in
theorem code_Get.calls (a0 : ByteArray) (r1 : Int) (r2 : List (S41)) (r3 : Int) (r4 : Int) (r5 : Int) (r6 : Int) (r7 : Int) (r8 : List (S41)) (r9 : Int) (r10 : Int) (r11 : List (S35)) (r12 : Int) (w : World) (h : code_Get.f a0 = some (r1, r2, r3, r4, r5, r6, r7, r8, r9, r10, r11, r12)) :
    Calls Try.prog 30 #[.string a0] w fun e w' => ∃ v1_ v7_ v10_ : Value, e = .returned (.tuple #[.agg #[.int .i64 r1, v1_, .int .i64 r3, .int .i64 r4, .int .i64 r5, .int .i64 r6, .int .i64 r7, v7_, .int .i64 r9, .int .i64 r10, v10_], .int .i64 r12]) ∧ Kd.R k41 41 w' w.heap.size (fun k_ => some k_ ≠ (v7_ : Value).ownBlock) v1_ r2 ∧ Kd.R k41 41 w' w.heap.size (fun k_ => some k_ ≠ (v1_ : Value).ownBlock) v7_ r8 ∧ Kd.R k35 35 w' w.heap.size (fun _ => True) v10_ r11 ∧ Below w.heap.size w w' := by
  unfold code_Get.f at h
  split at h
  · rename_i hl
    split at h
    · rename_i b hb
      have H := get_core a0 b w hl hb
      split at h
      · rename_i hc
        simp only [Option.some.injEq, Prod.mk.injEq] at h
        obtain ⟨rfl, rfl, rfl, rfl, rfl, rfl, rfl, rfl, rfl, rfl, rfl, rfl⟩ := h
        refine H.mono ?_
        rintro e w' ⟨v1, v7, v10, he, ho, hbw⟩
        refine ⟨_, _, _, ?_, Kd.R_nil _ _ _ _ _, Kd.R_nil _ _ _ _ _, Kd.R_nil _ _ _ _ _, hbw⟩
        unfold getE at he
        rw [if_pos hc] at he
        exact he
      · rename_i hc
        simp only [Option.some.injEq, Prod.mk.injEq] at h
        obtain ⟨rfl, rfl, rfl, rfl, rfl, rfl, rfl, rfl, rfl, rfl, rfl, rfl⟩ := h
        refine H.mono ?_
        rintro e w' ⟨v1, v7, v10, he, ho, hbw⟩
        refine ⟨v1, v7, v10, ?_, ho.1, ho.2.1, ho.2.2, hbw⟩
        unfold getE at he
        rw [if_neg hc] at he
        exact he
    · cases h
  · cases h
end Go.Proofs.YtndgollcganhmaaQ.P
namespace Go.Proofs.YtndgollcganhmaaQ.P
open Go.RowKit Go.Proofs.YtndgollcganhmaaW.PrintWords Go.Proofs.YtndgollcganhmaaW.PrintLast Go.Proofs.YtndgollcganhmaaW.PrintMore
attribute [local go_sem] max2_int min2_int max_two min_two max_three min_three max_four min_four
def foghornlaw17_alive.f  : Option (Bool) := (code_Put.f 2 ([] : List (S41)) 0 0 0 0 0 (([(⟨(⟨#[97]⟩ : ByteArray), (⟨#[120]⟩ : ByteArray)⟩ : S41)] : List (S41))) 0 0 ([] : List (S35))).bind fun bt271 => ((code_Get.f bt271.1).bind fun bt273 => (if bt271.2 = 0 then (if bt273.2.2.2.2.2.2.2.2.2.2.2 = 0 then (if bt271.1.toList = ([2, 1, 1, 97, 1, 120] : List UInt8) then (some ((bt273.2.2.2.2.2.2.2.1.length : Int) == 1)) else (some false)) else (some false)) else (some false)))
set_option maxHeartbeats 8000000 in
set_option maxRecDepth 100000 in
theorem foghornlaw17_alive.calls  (r : Bool) (w : World) (h : foghornlaw17_alive.f  = some r) :
  Calls Try.prog 28 #[] w fun e w' => e = .returned (.bool r) ∧ Below w.heap.size w w' := by
 have hu41 := Try.underlying41
 have hu50 := Try.underlying50
 have HB := aA (Below.refl w.heap.size w)
 have H : ((code_Put.f 2 ([] : List (S41)) 0 0 0 0 0 (([(⟨(⟨#[97]⟩ : ByteArray), (⟨#[120]⟩ : ByteArray)⟩ : S41)] : List (S41))) 0 0 ([] : List (S35))).bind fun bt271 => ((code_Get.f bt271.1).bind fun bt273 => (if bt271.2 = 0 then (if bt273.2.2.2.2.2.2.2.2.2.2.2 = 0 then (if bt271.1.toList = ([2, 1, 1, 97, 1, 120] : List UInt8) then (some ((bt273.2.2.2.2.2.2.2.1.length : Int) == 1)) else (some false)) else (some false)) else (some false)))) = some r := h
 clear h
 obtain ⟨y268, hy268⟩ : ∃ y_ : List (S41), y_ = (([(⟨(⟨#[97]⟩ : ByteArray), (⟨#[120]⟩ : ByteArray)⟩ : S41)] : List (S41))) := ⟨_, rfl⟩
 replace H : ((code_Put.f 2 ([] : List (S41)) 0 0 0 0 0 y268 0 0 ([] : List (S35))).bind fun bt271 => ((code_Get.f bt271.1).bind fun bt273 => (if bt271.2 = 0 then (if bt273.2.2.2.2.2.2.2.2.2.2.2 = 0 then (if bt271.1.toList = ([2, 1, 1, 97, 1, 120] : List UInt8) then (some ((bt273.2.2.2.2.2.2.2.1.length : Int) == 1)) else (some false)) else (some false)) else (some false)))) = some r := by first | (rw [hy268]; with_reducible exact H) | (have H2_ := (Option.bind_some _ _).symm.trans H; rw [hy268]; with_reducible exact H2_) | (have H2_ := (Option.bind_some _ _).symm.trans H; with_reducible exact H2_) | with_reducible exact H | (rw [hy268]; exact H) | exact H
 have Ny268 := aA hy268
 clear hy268
 replace H := Option.bind_eq_some_iff.mp H
 obtain ⟨⟨t271, t272⟩, A10, H⟩ := H
 have A1 := aA A10
 clear A10
 replace H := Option.bind_eq_some_iff.mp H
 obtain ⟨⟨t273, t274, t277, t278, t279, t280, t281, t282, t285, t286, t287, t290⟩, A20, H⟩ := H
 have A2 := aA A20
 clear A20
 by_cases c3 : t272 = 0
 ·rw [if_pos c3] at H
  have c3b0 : (t272 == 0) = true := beq_iff_eq.mpr c3
  have c3b1 : (t272 != 0) = false := bne_eq_false_iff_eq.mpr c3
  clear c3
  by_cases c4 : t290 = 0
  ·rw [if_pos c4] at H
   have c4b0 : (t290 == 0) = true := beq_iff_eq.mpr c4
   have c4b1 : (t290 != 0) = false := bne_eq_false_iff_eq.mpr c4
   clear c4
   by_cases c5 : t271.toList = ([2, 1, 1, 97, 1, 120] : List UInt8)
   ·rw [if_pos c5] at H
    have c5b0 : (t271.toList == ([2, 1, 1, 97, 1, 120] : List UInt8)) = true := beq_iff_eq.mpr c5
    have c5b1 : (t271.toList != ([2, 1, 1, 97, 1, 120] : List UInt8)) = false := bne_eq_false_iff_eq.mpr c5
    clear c5
    obtain rfl := Option.some.inj H
    go_enter Try.func28, Try.ntmps28
    go_wp2_with (first | ((with_reducible refine gate_dst (N := 7) rfl ?_); (try (refine gate_guard (by rfl) ?_; dsimp only)); refine Kd.R_lit k41 _ 41 ?hg (N := 7) ?hd (xs := ([(⟨(⟨#[97]⟩ : ByteArray), (⟨#[120]⟩ : ByteArray)⟩ : S41)] : List (S41))) (inner := [.string (⟨#[97]⟩ : ByteArray), .string (⟨#[120]⟩ : ByteArray)]) (ok := fun _ => True) (okp := fun _ => True) ?hr ?hp (fun _ hk => hk) trivial (Below.refl _ _) (Nat.le_refl _) (by simp) ?_; (case hd => rfl); (case hg => rfl); (case hr => first | (go_simp; done) | (go_simp; rfl)); (case hp => exact (Reps.c2 (show Kd.M k41 _ _ _ (⟨(⟨#[97]⟩ : ByteArray), (⟨#[120]⟩ : ByteArray)⟩ : S41) [.string (⟨#[97]⟩ : ByteArray), .string (⟨#[120]⟩ : ByteArray)] from (k41_mkM _ _ _ (⟨(⟨#[97]⟩ : ByteArray), (⟨#[120]⟩ : ByteArray)⟩ : S41) )) (Reps.none _ _))); intro v269 w6 ho7 hb hg_ hnew_; clear hg_ hnew_; (first | rw [← Ny268.out] at ho7 | (simp only [Int.reduceToNat] at ho7; rw [← Ny268.out] at ho7)); have n0_ := aA (Kd.R_lower ho7 (below_size mB)); have n1_ := aA (below_step mB hb); clear HB; have HO270 := n0_; have HB := n1_; clear n0_ n1_ hb ho7; obtain ⟨Ao8, co8, eo8⟩ := Kd.R_slice HO270.out; subst eo8) | ((with_reducible refine gate_callee (f := 25) rfl ?_); refine goesL_ (some 9) rfl rfl Try.func25 (by kernel_rfl) rfl #[.agg #[.int .i64 2, .slice none 0 0, .int .i64 0, .int .i64 0, .int .i64 0, .int .i64 0, .int .i64 0, .slice Ao8 y268.length co8, .int .i64 0, .int .i64 0, .slice none 0 0]] rfl mS ?_; (refine (code_Put.calls 2 _ _ ([] : List (S41)) 0 0 0 0 0 _ _ y268 0 0 _ _ ([] : List (S35)) t271 t272 _ ?side1 ?side2 ?side3 ?side4 ?side5 ?side6 A1.out).mono ?_); (case side1 => exact Kd.C_nil _ _); (case side2 => exact Nat.le_refl _); (case side3 => exact mC ((Kd.R_reads' HO270.out).2.2)); (case side4 => exact (Kd.R_reads' HO270.out).2.1); (case side5 => exact Kd.C_nil _ _); (case side6 => exact Nat.le_refl _); rintro e w9 ⟨rfl, hb⟩; refine ⟨_, rfl, ?_⟩; have n0_ := aA (Kd.R_below (mR HO270.out) hb); have n1_ := aA (below_step mB hb); clear HO270 HB; have HO270 := n0_; have HB := n1_; clear n0_ n1_; (try clear hb); (try clear hb2); (try clear hk); (try clear hi)) | ((with_reducible refine gate_callee (f := 30) rfl ?_); refine goesL_ (some 14) rfl rfl Try.func30 (by kernel_rfl) rfl #[.string t271] rfl mS ?_; (with_reducible refine (code_Get.calls t271 t273 t274 t277 t278 t279 t280 t281 t282 t285 t286 t287 t290 _ A2.out).mono ?_); rintro e w10 ⟨v275, v283, v288, rfl, ho0, ho1, ho2, hb⟩; refine ⟨_, rfl, ?_⟩; have n0_ := aA (Kd.R_mono (Kd.R_told (Kd.R_told (Kd.R_old (mR HO270.out) hb) (Kd.R_base ho0)) (Kd.R_base ho1)) (fun _ h_ => h_.1)); have n1_ := aA (Kd.R_lower (Kd.R_new' ho0 (Kd.R_lt (mR HO270.out))) (below_size mB)); have n2_ := aA (Kd.R_lower (Kd.R_new' ho1 (Kd.R_lt (mR HO270.out))) (below_size mB)); have n3_ := aA (Kd.R_lower ho2 (below_size mB)); have n4_ := aA (below_step mB hb); clear HO270 HB; have HO270 := n0_; have HO276 := n1_; have HO284 := n2_; have HO289 := n3_; have HB := n4_; clear n0_ n1_ n2_ n3_ n4_; (try clear hb); (try clear hb2); (try clear hk); (try clear hi); (try clear ho0); (try clear ho1); (try clear ho2)) | ((with_reducible refine gate_dst (N := 3) rfl ?_); (try (refine gate_guard (by rfl) ?_; dsimp only)); refine box_event ?hg (N := 3) ?hd (cs := #[.int .i64 0, .slice none 0 0, .int .i64 0, .int .i64 0, .int .i64 0, .int .i64 0, .int .i64 0, .slice none 0 0, .int .i64 0, .int .i64 0, .slice none 0 0]) (t := 50) ?hr ?_; (case hd => rfl); (case hg => rfl); (case hr => first | (go_simp; done) | (go_simp; rfl)); intro gb291 hg w11 hbox hb; have n0_ := aA (Kd.R_below (mR HO270.out) hb); have n1_ := aA (Kd.R_below (mR HO276.out) hb); have n2_ := aA (Kd.R_below (mR HO284.out) hb); have n3_ := aA (Kd.R_below (mR HO289.out) hb); have n4_ := aA (below_step mB hb); have n5_ := aA (hbox); have n6_ := aA ((bZ hg mB)); have n7_ := aA ((bZ hg mB)); clear HO270 HO276 HO284 HO289 HB; have HO270 := n0_; have HO276 := n1_; have HO284 := n2_; have HO289 := n3_; have HB := n4_; have BK291 := n5_; have GW291 := n6_; have GE291 := n7_; clear n0_ n1_ n2_ n3_ n4_ n5_ n6_ n7_ hb hbox hg; obtain ⟨hcz12_0, hcz12_1, hcz12_2, hcz12_3, hcz12_4, hcz12_5, hcz12_6, hcz12_7, hcz12_8, hcz12_9, hcz12_10⟩ := bC11 BK291.out; obtain ⟨hfz12_0, hfz12_1, hfz12_2, hfz12_3, hfz12_4, hfz12_5, hfz12_6, hfz12_7, hfz12_8, hfz12_9, hfz12_10⟩ := bF11 BK291.out; obtain ⟨Ao13, co13, eo13⟩ := Kd.R_slice HO276.out; subst eo13; obtain ⟨Ao14, co14, eo14⟩ := Kd.R_slice HO284.out; subst eo14; obtain ⟨Ao15, co15, eo15⟩ := Kd.R_slice HO289.out; subst eo15))
    go_ret
    exact ⟨by first | rfl | (simp [errW_none, errW_some] <;> rfl) | (simp [*, errW_none, errW_some] <;> rfl), by repeat (first | (with_reducible first | exact HB.out | apply below_alloc | apply pw_below_drewN | apply below_drew1 | refine below_set ?_ GE291.out) | exact HB.out)⟩
   ·rw [if_neg c5] at H
    have c5b0 : (t271.toList == ([2, 1, 1, 97, 1, 120] : List UInt8)) = false := beq_eq_false_iff_ne.mpr c5
    have c5b1 : (t271.toList != ([2, 1, 1, 97, 1, 120] : List UInt8)) = true := bne_iff_ne.mpr c5
    obtain rfl := Option.some.inj H
    go_enter Try.func28, Try.ntmps28
    go_wp2_with (first | ((with_reducible refine gate_dst (N := 7) rfl ?_); (try (refine gate_guard (by rfl) ?_; dsimp only)); refine Kd.R_lit k41 _ 41 ?hg (N := 7) ?hd (xs := ([(⟨(⟨#[97]⟩ : ByteArray), (⟨#[120]⟩ : ByteArray)⟩ : S41)] : List (S41))) (inner := [.string (⟨#[97]⟩ : ByteArray), .string (⟨#[120]⟩ : ByteArray)]) (ok := fun _ => True) (okp := fun _ => True) ?hr ?hp (fun _ hk => hk) trivial (Below.refl _ _) (Nat.le_refl _) (by simp) ?_; (case hd => rfl); (case hg => rfl); (case hr => first | (go_simp; done) | (go_simp; rfl)); (case hp => exact (Reps.c2 (show Kd.M k41 _ _ _ (⟨(⟨#[97]⟩ : ByteArray), (⟨#[120]⟩ : ByteArray)⟩ : S41) [.string (⟨#[97]⟩ : ByteArray), .string (⟨#[120]⟩ : ByteArray)] from (k41_mkM _ _ _ (⟨(⟨#[97]⟩ : ByteArray), (⟨#[120]⟩ : ByteArray)⟩ : S41) )) (Reps.none _ _))); intro v269 w16 ho17 hb hg_ hnew_; clear hg_ hnew_; (first | rw [← Ny268.out] at ho17 | (simp only [Int.reduceToNat] at ho17; rw [← Ny268.out] at ho17)); have n0_ := aA (Kd.R_lower ho17 (below_size mB)); have n1_ := aA (below_step mB hb); clear HB; have HO270 := n0_; have HB := n1_; clear n0_ n1_ hb ho17; obtain ⟨Ao18, co18, eo18⟩ := Kd.R_slice HO270.out; subst eo18) | ((with_reducible refine gate_callee (f := 25) rfl ?_); refine goesL_ (some 9) rfl rfl Try.func25 (by kernel_rfl) rfl #[.agg #[.int .i64 2, .slice none 0 0, .int .i64 0, .int .i64 0, .int .i64 0, .int .i64 0, .int .i64 0, .slice Ao18 y268.length co18, .int .i64 0, .int .i64 0, .slice none 0 0]] rfl mS ?_; (refine (code_Put.calls 2 _ _ ([] : List (S41)) 0 0 0 0 0 _ _ y268 0 0 _ _ ([] : List (S35)) t271 t272 _ ?side1 ?side2 ?side3 ?side4 ?side5 ?side6 A1.out).mono ?_); (case side1 => exact Kd.C_nil _ _); (case side2 => exact Nat.le_refl _); (case side3 => exact mC ((Kd.R_reads' HO270.out).2.2)); (case side4 => exact (Kd.R_reads' HO270.out).2.1); (case side5 => exact Kd.C_nil _ _); (case side6 => exact Nat.le_refl _); rintro e w19 ⟨rfl, hb⟩; refine ⟨_, rfl, ?_⟩; have n0_ := aA (Kd.R_below (mR HO270.out) hb); have n1_ := aA (below_step mB hb); clear HO270 HB; have HO270 := n0_; have HB := n1_; clear n0_ n1_; (try clear hb); (try clear hb2); (try clear hk); (try clear hi)) | ((with_reducible refine gate_callee (f := 30) rfl ?_); refine goesL_ (some 14) rfl rfl Try.func30 (by kernel_rfl) rfl #[.string t271] rfl mS ?_; (with_reducible refine (code_Get.calls t271 t273 t274 t277 t278 t279 t280 t281 t282 t285 t286 t287 t290 _ A2.out).mono ?_); rintro e w20 ⟨v275, v283, v288, rfl, ho0, ho1, ho2, hb⟩; refine ⟨_, rfl, ?_⟩; have n0_ := aA (Kd.R_mono (Kd.R_told (Kd.R_told (Kd.R_old (mR HO270.out) hb) (Kd.R_base ho0)) (Kd.R_base ho1)) (fun _ h_ => h_.1)); have n1_ := aA (Kd.R_lower (Kd.R_new' ho0 (Kd.R_lt (mR HO270.out))) (below_size mB)); have n2_ := aA (Kd.R_lower (Kd.R_new' ho1 (Kd.R_lt (mR HO270.out))) (below_size mB)); have n3_ := aA (Kd.R_lower ho2 (below_size mB)); have n4_ := aA (below_step mB hb); clear HO270 HB; have HO270 := n0_; have HO276 := n1_; have HO284 := n2_; have HO289 := n3_; have HB := n4_; clear n0_ n1_ n2_ n3_ n4_; (try clear hb); (try clear hb2); (try clear hk); (try clear hi); (try clear ho0); (try clear ho1); (try clear ho2)) | ((with_reducible refine gate_dst (N := 3) rfl ?_); (try (refine gate_guard (by rfl) ?_; dsimp only)); refine box_event ?hg (N := 3) ?hd (cs := #[.int .i64 0, .slice none 0 0, .int .i64 0, .int .i64 0, .int .i64 0, .int .i64 0, .int .i64 0, .slice none 0 0, .int .i64 0, .int .i64 0, .slice none 0 0]) (t := 50) ?hr ?_; (case hd => rfl); (case hg => rfl); (case hr => first | (go_simp; done) | (go_simp; rfl)); intro gb291 hg w21 hbox hb; have n0_ := aA (Kd.R_below (mR HO270.out) hb); have n1_ := aA (Kd.R_below (mR HO276.out) hb); have n2_ := aA (Kd.R_below (mR HO284.out) hb); have n3_ := aA (Kd.R_below (mR HO289.out) hb); have n4_ := aA (below_step mB hb); have n5_ := aA (hbox); have n6_ := aA ((bZ hg mB)); have n7_ := aA ((bZ hg mB)); clear HO270 HO276 HO284 HO289 HB; have HO270 := n0_; have HO276 := n1_; have HO284 := n2_; have HO289 := n3_; have HB := n4_; have BK291 := n5_; have GW291 := n6_; have GE291 := n7_; clear n0_ n1_ n2_ n3_ n4_ n5_ n6_ n7_ hb hbox hg; obtain ⟨hcz22_0, hcz22_1, hcz22_2, hcz22_3, hcz22_4, hcz22_5, hcz22_6, hcz22_7, hcz22_8, hcz22_9, hcz22_10⟩ := bC11 BK291.out; obtain ⟨hfz22_0, hfz22_1, hfz22_2, hfz22_3, hfz22_4, hfz22_5, hfz22_6, hfz22_7, hfz22_8, hfz22_9, hfz22_10⟩ := bF11 BK291.out; obtain ⟨Ao23, co23, eo23⟩ := Kd.R_slice HO276.out; subst eo23; obtain ⟨Ao24, co24, eo24⟩ := Kd.R_slice HO284.out; subst eo24; obtain ⟨Ao25, co25, eo25⟩ := Kd.R_slice HO289.out; subst eo25))
    go_ret
    exact ⟨by first | rfl | (simp [errW_none, errW_some] <;> rfl) | (simp [*, errW_none, errW_some] <;> rfl), by repeat (first | (with_reducible first | exact HB.out | apply below_alloc | apply pw_below_drewN | apply below_drew1 | refine below_set ?_ GE291.out) | exact HB.out)⟩
  ·rw [if_neg c4] at H
   have c4b0 : (t290 == 0) = false := beq_eq_false_iff_ne.mpr c4
   have c4b1 : (t290 != 0) = true := bne_iff_ne.mpr c4
   obtain rfl := Option.some.inj H
   go_enter Try.func28, Try.ntmps28
   go_wp2_with (first | ((with_reducible refine gate_dst (N := 7) rfl ?_); (try (refine gate_guard (by rfl) ?_; dsimp only)); refine Kd.R_lit k41 _ 41 ?hg (N := 7) ?hd (xs := ([(⟨(⟨#[97]⟩ : ByteArray), (⟨#[120]⟩ : ByteArray)⟩ : S41)] : List (S41))) (inner := [.string (⟨#[97]⟩ : ByteArray), .string (⟨#[120]⟩ : ByteArray)]) (ok := fun _ => True) (okp := fun _ => True) ?hr ?hp (fun _ hk => hk) trivial (Below.refl _ _) (Nat.le_refl _) (by simp) ?_; (case hd => rfl); (case hg => rfl); (case hr => first | (go_simp; done) | (go_simp; rfl)); (case hp => exact (Reps.c2 (show Kd.M k41 _ _ _ (⟨(⟨#[97]⟩ : ByteArray), (⟨#[120]⟩ : ByteArray)⟩ : S41) [.string (⟨#[97]⟩ : ByteArray), .string (⟨#[120]⟩ : ByteArray)] from (k41_mkM _ _ _ (⟨(⟨#[97]⟩ : ByteArray), (⟨#[120]⟩ : ByteArray)⟩ : S41) )) (Reps.none _ _))); intro v269 w26 ho27 hb hg_ hnew_; clear hg_ hnew_; (first | rw [← Ny268.out] at ho27 | (simp only [Int.reduceToNat] at ho27; rw [← Ny268.out] at ho27)); have n0_ := aA (Kd.R_lower ho27 (below_size mB)); have n1_ := aA (below_step mB hb); clear HB; have HO270 := n0_; have HB := n1_; clear n0_ n1_ hb ho27; obtain ⟨Ao28, co28, eo28⟩ := Kd.R_slice HO270.out; subst eo28) | ((with_reducible refine gate_callee (f := 25) rfl ?_); refine goesL_ (some 9) rfl rfl Try.func25 (by kernel_rfl) rfl #[.agg #[.int .i64 2, .slice none 0 0, .int .i64 0, .int .i64 0, .int .i64 0, .int .i64 0, .int .i64 0, .slice Ao28 y268.length co28, .int .i64 0, .int .i64 0, .slice none 0 0]] rfl mS ?_; (refine (code_Put.calls 2 _ _ ([] : List (S41)) 0 0 0 0 0 _ _ y268 0 0 _ _ ([] : List (S35)) t271 t272 _ ?side1 ?side2 ?side3 ?side4 ?side5 ?side6 A1.out).mono ?_); (case side1 => exact Kd.C_nil _ _); (case side2 => exact Nat.le_refl _); (case side3 => exact mC ((Kd.R_reads' HO270.out).2.2)); (case side4 => exact (Kd.R_reads' HO270.out).2.1); (case side5 => exact Kd.C_nil _ _); (case side6 => exact Nat.le_refl _); rintro e w29 ⟨rfl, hb⟩; refine ⟨_, rfl, ?_⟩; have n0_ := aA (Kd.R_below (mR HO270.out) hb); have n1_ := aA (below_step mB hb); clear HO270 HB; have HO270 := n0_; have HB := n1_; clear n0_ n1_; (try clear hb); (try clear hb2); (try clear hk); (try clear hi)) | ((with_reducible refine gate_callee (f := 30) rfl ?_); refine goesL_ (some 14) rfl rfl Try.func30 (by kernel_rfl) rfl #[.string t271] rfl mS ?_; (with_reducible refine (code_Get.calls t271 t273 t274 t277 t278 t279 t280 t281 t282 t285 t286 t287 t290 _ A2.out).mono ?_); rintro e w30 ⟨v275, v283, v288, rfl, ho0, ho1, ho2, hb⟩; refine ⟨_, rfl, ?_⟩; have n0_ := aA (Kd.R_mono (Kd.R_told (Kd.R_told (Kd.R_old (mR HO270.out) hb) (Kd.R_base ho0)) (Kd.R_base ho1)) (fun _ h_ => h_.1)); have n1_ := aA (Kd.R_lower (Kd.R_new' ho0 (Kd.R_lt (mR HO270.out))) (below_size mB)); have n2_ := aA (Kd.R_lower (Kd.R_new' ho1 (Kd.R_lt (mR HO270.out))) (below_size mB)); have n3_ := aA (Kd.R_lower ho2 (below_size mB)); have n4_ := aA (below_step mB hb); clear HO270 HB; have HO270 := n0_; have HO276 := n1_; have HO284 := n2_; have HO289 := n3_; have HB := n4_; clear n0_ n1_ n2_ n3_ n4_; (try clear hb); (try clear hb2); (try clear hk); (try clear hi); (try clear ho0); (try clear ho1); (try clear ho2)) | ((with_reducible refine gate_dst (N := 3) rfl ?_); (try (refine gate_guard (by rfl) ?_; dsimp only)); refine box_event ?hg (N := 3) ?hd (cs := #[.int .i64 0, .slice none 0 0, .int .i64 0, .int .i64 0, .int .i64 0, .int .i64 0, .int .i64 0, .slice none 0 0, .int .i64 0, .int .i64 0, .slice none 0 0]) (t := 50) ?hr ?_; (case hd => rfl); (case hg => rfl); (case hr => first | (go_simp; done) | (go_simp; rfl)); intro gb291 hg w31 hbox hb; have n0_ := aA (Kd.R_below (mR HO270.out) hb); have n1_ := aA (Kd.R_below (mR HO276.out) hb); have n2_ := aA (Kd.R_below (mR HO284.out) hb); have n3_ := aA (Kd.R_below (mR HO289.out) hb); have n4_ := aA (below_step mB hb); have n5_ := aA (hbox); have n6_ := aA ((bZ hg mB)); have n7_ := aA ((bZ hg mB)); clear HO270 HO276 HO284 HO289 HB; have HO270 := n0_; have HO276 := n1_; have HO284 := n2_; have HO289 := n3_; have HB := n4_; have BK291 := n5_; have GW291 := n6_; have GE291 := n7_; clear n0_ n1_ n2_ n3_ n4_ n5_ n6_ n7_ hb hbox hg; obtain ⟨hcz32_0, hcz32_1, hcz32_2, hcz32_3, hcz32_4, hcz32_5, hcz32_6, hcz32_7, hcz32_8, hcz32_9, hcz32_10⟩ := bC11 BK291.out; obtain ⟨hfz32_0, hfz32_1, hfz32_2, hfz32_3, hfz32_4, hfz32_5, hfz32_6, hfz32_7, hfz32_8, hfz32_9, hfz32_10⟩ := bF11 BK291.out; obtain ⟨Ao33, co33, eo33⟩ := Kd.R_slice HO276.out; subst eo33; obtain ⟨Ao34, co34, eo34⟩ := Kd.R_slice HO284.out; subst eo34; obtain ⟨Ao35, co35, eo35⟩ := Kd.R_slice HO289.out; subst eo35))
   go_ret
   exact ⟨by first | rfl | (simp [errW_none, errW_some] <;> rfl) | (simp [*, errW_none, errW_some] <;> rfl), by repeat (first | (with_reducible first | exact HB.out | apply below_alloc | apply pw_below_drewN | apply below_drew1 | refine below_set ?_ GE291.out) | exact HB.out)⟩
 ·rw [if_neg c3] at H
  have c3b0 : (t272 == 0) = false := beq_eq_false_iff_ne.mpr c3
  have c3b1 : (t272 != 0) = true := bne_iff_ne.mpr c3
  obtain rfl := Option.some.inj H
  go_enter Try.func28, Try.ntmps28
  go_wp2_with (first | ((with_reducible refine gate_dst (N := 7) rfl ?_); (try (refine gate_guard (by rfl) ?_; dsimp only)); refine Kd.R_lit k41 _ 41 ?hg (N := 7) ?hd (xs := ([(⟨(⟨#[97]⟩ : ByteArray), (⟨#[120]⟩ : ByteArray)⟩ : S41)] : List (S41))) (inner := [.string (⟨#[97]⟩ : ByteArray), .string (⟨#[120]⟩ : ByteArray)]) (ok := fun _ => True) (okp := fun _ => True) ?hr ?hp (fun _ hk => hk) trivial (Below.refl _ _) (Nat.le_refl _) (by simp) ?_; (case hd => rfl); (case hg => rfl); (case hr => first | (go_simp; done) | (go_simp; rfl)); (case hp => exact (Reps.c2 (show Kd.M k41 _ _ _ (⟨(⟨#[97]⟩ : ByteArray), (⟨#[120]⟩ : ByteArray)⟩ : S41) [.string (⟨#[97]⟩ : ByteArray), .string (⟨#[120]⟩ : ByteArray)] from (k41_mkM _ _ _ (⟨(⟨#[97]⟩ : ByteArray), (⟨#[120]⟩ : ByteArray)⟩ : S41) )) (Reps.none _ _))); intro v269 w36 ho37 hb hg_ hnew_; clear hg_ hnew_; (first | rw [← Ny268.out] at ho37 | (simp only [Int.reduceToNat] at ho37; rw [← Ny268.out] at ho37)); have n0_ := aA (Kd.R_lower ho37 (below_size mB)); have n1_ := aA (below_step mB hb); clear HB; have HO270 := n0_; have HB := n1_; clear n0_ n1_ hb ho37; obtain ⟨Ao38, co38, eo38⟩ := Kd.R_slice HO270.out; subst eo38) | ((with_reducible refine gate_callee (f := 25) rfl ?_); refine goesL_ (some 9) rfl rfl Try.func25 (by kernel_rfl) rfl #[.agg #[.int .i64 2, .slice none 0 0, .int .i64 0, .int .i64 0, .int .i64 0, .int .i64 0, .int .i64 0, .slice Ao38 y268.length co38, .int .i64 0, .int .i64 0, .slice none 0 0]] rfl mS ?_; (refine (code_Put.calls 2 _ _ ([] : List (S41)) 0 0 0 0 0 _ _ y268 0 0 _ _ ([] : List (S35)) t271 t272 _ ?side1 ?side2 ?side3 ?side4 ?side5 ?side6 A1.out).mono ?_); (case side1 => exact Kd.C_nil _ _); (case side2 => exact Nat.le_refl _); (case side3 => exact mC ((Kd.R_reads' HO270.out).2.2)); (case side4 => exact (Kd.R_reads' HO270.out).2.1); (case side5 => exact Kd.C_nil _ _); (case side6 => exact Nat.le_refl _); rintro e w39 ⟨rfl, hb⟩; refine ⟨_, rfl, ?_⟩; have n0_ := aA (Kd.R_below (mR HO270.out) hb); have n1_ := aA (below_step mB hb); clear HO270 HB; have HO270 := n0_; have HB := n1_; clear n0_ n1_; (try clear hb); (try clear hb2); (try clear hk); (try clear hi)) | ((with_reducible refine gate_callee (f := 30) rfl ?_); refine goesL_ (some 14) rfl rfl Try.func30 (by kernel_rfl) rfl #[.string t271] rfl mS ?_; (with_reducible refine (code_Get.calls t271 t273 t274 t277 t278 t279 t280 t281 t282 t285 t286 t287 t290 _ A2.out).mono ?_); rintro e w40 ⟨v275, v283, v288, rfl, ho0, ho1, ho2, hb⟩; refine ⟨_, rfl, ?_⟩; have n0_ := aA (Kd.R_mono (Kd.R_told (Kd.R_told (Kd.R_old (mR HO270.out) hb) (Kd.R_base ho0)) (Kd.R_base ho1)) (fun _ h_ => h_.1)); have n1_ := aA (Kd.R_lower (Kd.R_new' ho0 (Kd.R_lt (mR HO270.out))) (below_size mB)); have n2_ := aA (Kd.R_lower (Kd.R_new' ho1 (Kd.R_lt (mR HO270.out))) (below_size mB)); have n3_ := aA (Kd.R_lower ho2 (below_size mB)); have n4_ := aA (below_step mB hb); clear HO270 HB; have HO270 := n0_; have HO276 := n1_; have HO284 := n2_; have HO289 := n3_; have HB := n4_; clear n0_ n1_ n2_ n3_ n4_; (try clear hb); (try clear hb2); (try clear hk); (try clear hi); (try clear ho0); (try clear ho1); (try clear ho2)) | ((with_reducible refine gate_dst (N := 3) rfl ?_); (try (refine gate_guard (by rfl) ?_; dsimp only)); refine box_event ?hg (N := 3) ?hd (cs := #[.int .i64 0, .slice none 0 0, .int .i64 0, .int .i64 0, .int .i64 0, .int .i64 0, .int .i64 0, .slice none 0 0, .int .i64 0, .int .i64 0, .slice none 0 0]) (t := 50) ?hr ?_; (case hd => rfl); (case hg => rfl); (case hr => first | (go_simp; done) | (go_simp; rfl)); intro gb291 hg w41 hbox hb; have n0_ := aA (Kd.R_below (mR HO270.out) hb); have n1_ := aA (Kd.R_below (mR HO276.out) hb); have n2_ := aA (Kd.R_below (mR HO284.out) hb); have n3_ := aA (Kd.R_below (mR HO289.out) hb); have n4_ := aA (below_step mB hb); have n5_ := aA (hbox); have n6_ := aA ((bZ hg mB)); have n7_ := aA ((bZ hg mB)); clear HO270 HO276 HO284 HO289 HB; have HO270 := n0_; have HO276 := n1_; have HO284 := n2_; have HO289 := n3_; have HB := n4_; have BK291 := n5_; have GW291 := n6_; have GE291 := n7_; clear n0_ n1_ n2_ n3_ n4_ n5_ n6_ n7_ hb hbox hg; obtain ⟨hcz42_0, hcz42_1, hcz42_2, hcz42_3, hcz42_4, hcz42_5, hcz42_6, hcz42_7, hcz42_8, hcz42_9, hcz42_10⟩ := bC11 BK291.out; obtain ⟨hfz42_0, hfz42_1, hfz42_2, hfz42_3, hfz42_4, hfz42_5, hfz42_6, hfz42_7, hfz42_8, hfz42_9, hfz42_10⟩ := bF11 BK291.out; obtain ⟨Ao43, co43, eo43⟩ := Kd.R_slice HO276.out; subst eo43; obtain ⟨Ao44, co44, eo44⟩ := Kd.R_slice HO284.out; subst eo44; obtain ⟨Ao45, co45, eo45⟩ := Kd.R_slice HO289.out; subst eo45))
  go_ret
  exact ⟨by first | rfl | (simp [errW_none, errW_some] <;> rfl) | (simp [*, errW_none, errW_some] <;> rfl), by repeat (first | (with_reducible first | exact HB.out | apply below_alloc | apply pw_below_drewN | apply below_drew1 | refine below_set ?_ GE291.out) | exact HB.out)⟩
end Go.Proofs.YtndgollcganhmaaQ.P
namespace Go.Proofs.YtndgollcganhmaaQ.P
open Go.RowKit Go.Proofs.YtndgollcganhmaaW.PrintWords Go.Proofs.YtndgollcganhmaaW.PrintLast Go.Proofs.YtndgollcganhmaaW.PrintMore
attribute [local go_sem] max2_int min2_int max_two min_two max_three min_three max_four min_four
def foghornref17_one.f (a0 : Int) : Option (ByteArray) := some (strOfNums (([(a0) % 256] : List Int)))
set_option maxHeartbeats 8000000 in
set_option maxRecDepth 100000 in
theorem foghornref17_one.calls (a0 : Int) (r : ByteArray) (w : World) (h : foghornref17_one.f a0 = some r) :
  Calls Try.prog 57 #[.int .i64 a0] w fun e w' => e = .returned (.string r) ∧ Below w.heap.size w w' := by
 have HB := aA (Below.refl w.heap.size w)
 have H : (some (strOfNums (([(a0) % 256] : List Int)))) = some r := h
 clear h
 obtain ⟨y292, hy292⟩ : ∃ y_ : List Int, y_ = (([(a0) % 256] : List Int)) := ⟨_, rfl⟩
 replace H : (some (strOfNums y292)) = some r := by first | (rw [hy292]; with_reducible exact H) | (have H2_ := (Option.bind_some _ _).symm.trans H; rw [hy292]; with_reducible exact H2_) | (have H2_ := (Option.bind_some _ _).symm.trans H; with_reducible exact H2_) | with_reducible exact H | (rw [hy292]; exact H) | exact H
 have Ny292 := aA hy292
 clear hy292
 obtain rfl := Option.some.inj H
 go_enter Try.func57, Try.ntmps57
 go_wp2_with (first | ((with_reducible refine gate_dst (N := 5) rfl ?_); refine Kd.R_lit (Kd.int .u8) _ 5 ?hg (N := 5) ?hd (xs := ([(a0) % 256] : List Int)) (inner := [.int .u8 ((a0) % 256)]) (ok := fun _ => True) (okp := fun _ => True) ?hr ?hp (fun _ hk => hk) trivial (Below.refl _ _) (Nat.le_refl _) (by simp) ?_; (case hd => rfl); (case hg => rfl); (case hr => first | (go_simp; done) | (go_simp; rfl)); (case hp => exact (Reps.one (show Kd.M (Kd.int .u8) _ _ _ ((a0) % 256) [.int .u8 ((a0) % 256)] from rfl) (Reps.none _ _))); intro v293 w2 ho3 hb hg_ hnew_; clear hg_ hnew_; (first | rw [← Ny292.out] at ho3 | (simp only [Int.reduceToNat] at ho3; rw [← Ny292.out] at ho3)); have n0_ := aA (Kd.R_lower ho3 (below_size mB)); have n1_ := aA (below_step mB hb); clear HB; have HO294 := n0_; have HB := n1_; clear n0_ n1_ hb ho3; have hcv4 := own_string (P := Try.prog) Try.underlying106 Try.underlying5 Try.underlying9 (Kd.own_of_R HO294.out)))
 go_ret
 exact ⟨by first | rfl | (simp [errW_none, errW_some] <;> rfl) | (simp [*, errW_none, errW_some] <;> rfl), by repeat (first | (with_reducible first | exact HB.out | apply below_alloc | apply pw_below_drewN | apply below_drew1) | exact HB.out)⟩
end Go.Proofs.YtndgollcganhmaaQ.P
namespace Go.Proofs.YtndgollcganhmaaQ.P
open Go.RowKit Go.Proofs.YtndgollcganhmaaW.PrintWords Go.Proofs.YtndgollcganhmaaW.PrintLast Go.Proofs.YtndgollcganhmaaW.PrintMore
attribute [local go_sem] max2_int min2_int max_two min_two max_three min_three max_four min_four
def foghornref17_text.f (a0 : ByteArray) : Option (ByteArray) := (foghornref17_one.f (a0.size : Int)).bind fun t295 => (if t295.size + a0.size ≤ 9223372036854775807 then (some (t295 ++ a0)) else (none))
set_option maxHeartbeats 8000000 in
set_option maxRecDepth 100000 in
theorem foghornref17_text.calls (a0 : ByteArray) (r : ByteArray) (w : World) (h : foghornref17_text.f a0 = some r) :
  Calls Try.prog 60 #[.string a0] w fun e w' => e = .returned (.string r) ∧ Below w.heap.size w w' := by
 have HB := aA (Below.refl w.heap.size w)
 have H : ((foghornref17_one.f (a0.size : Int)).bind fun t295 => (if t295.size + a0.size ≤ 9223372036854775807 then (some (t295 ++ a0)) else (none))) = some r := h
 clear h
 replace H := Option.bind_eq_some_iff.mp H
 obtain ⟨t295, A20, H⟩ := H
 have A2 := aA A20
 clear A20
 by_cases c3 : t295.size + a0.size ≤ 9223372036854775807
 ·rw [if_pos c3] at H
  have c3b0 := eq_true c3
  have c3b1 := decide_eq_true c3
  try have c3b2 : (9223372036854775807 < t295.size + a0.size) = False := eq_false (Nat.not_lt.2 c3)
  obtain rfl := Option.some.inj H
  go_enter Try.func60, Try.ntmps60
  go_wp2_with (first | ((with_reducible refine gate_callee (f := 57) rfl ?_); refine goesL_ (some 5) rfl rfl Try.func57 (by kernel_rfl) rfl #[.int .i64 (a0.size : Int)] rfl mS ?_; (with_reducible refine (foghornref17_one.calls (a0.size : Int) t295 _ A2.out).mono ?_); rintro e w4 ⟨rfl, hb⟩; refine ⟨_, rfl, ?_⟩; have n0_ := aA (below_step mB hb); clear HB; have HB := n0_; clear n0_; (try clear hb); (try clear hb2); (try clear hk); (try clear hi)))
  go_ret
  exact ⟨by first | rfl | (simp [errW_none, errW_some] <;> rfl) | (simp [*, errW_none, errW_some] <;> rfl), by repeat (first | (with_reducible first | exact HB.out | apply below_alloc | apply pw_below_drewN | apply below_drew1) | exact HB.out)⟩
 ·rw [if_neg c3] at H
  exact absurd H (by simp)
end Go.Proofs.YtndgollcganhmaaQ.P
namespace Go.Proofs.YtndgollcganhmaaQ.P
open Go.RowKit Go.Proofs.YtndgollcganhmaaW.PrintWords Go.Proofs.YtndgollcganhmaaW.PrintLast Go.Proofs.YtndgollcganhmaaW.PrintMore
attribute [local go_sem] max2_int min2_int max_two min_two max_three min_three max_four min_four
def foghornref17_labels.l0 : Nat → ByteArray → List (S41) → Int → Int → Option (ByteArray)
 | 0, _, _, _, _ => none
 | k + 1, x3, x9, x10, x11 => if x11 < x10 then (if 0 ≤ x11 then (if x11 < (x9.length : Int) then ((foghornref17_text.f ((rd_T41 x9 x11).f0)).bind fun t299 => (if x3.size + t299.size ≤ 9223372036854775807 then ((foghornref17_text.f ((rd_T41 x9 x11).f1)).bind fun t300 => (if (x3 ++ t299).size + t300.size ≤ 9223372036854775807 then (foghornref17_labels.l0 k ((x3 ++ t299) ++ t300) x9 x10 (wrap64 (x11 + 1))) else (none))) else (none))) else (none)) else (none)) else (some x3)
def foghornref17_labels.f (k : Nat) (l0 : List (S41)) : Option (ByteArray) := (foghornref17_one.f (l0.length : Int)).bind fun t296 => (foghornref17_labels.l0 k t296 l0 (l0.length : Int) 0)
def foghornref17_labels.T5 : Bool × List (List Nat × List Nat) := (true, [([], []), ([], []), ([1], [1]), ([2], [2]), ([0, 3], [0, 3]), ([], []), ([5], [5]), ([6, 3], [6]), ([4, 7], [4, 7]), ([8, 7, 0, 1, 2, 3, 4, 5, 6, 7, 8], [0, 8])])
def foghornref17_labels.B5 : List Nat := [0, 0, 2, 6, 15, 0, 32, 110, 255, 511]
theorem foghornref17_labels.tab5 : rtab .any (opsOf Try.f58 5) = foghornref17_labels.T5 := by kernel_rfl
theorem foghornref17_labels.bits5 : waitsOk foghornref17_labels.T5.2 foghornref17_labels.B5 = true := by kernel_rfl
set_option maxHeartbeats 8000000 in
set_option maxRecDepth 100000 in
theorem foghornref17_labels.calls (k : Nat) (A0 : Option Addr) (c0 : Nat) (l0 : List (S41)) (r : ByteArray) (w : World) (hr0 : Kd.C k41 w A0 l0.length l0) (hc0 : l0.length ≤ c0) (h : foghornref17_labels.f k l0 = some r) :
  Calls Try.prog 58 #[.slice A0 l0.length c0] w fun e w' => e = .returned (.string r) ∧ Below w.heap.size w w' := by
 have hu41 := Try.underlying41
 have HR0 := aA hr0
 have HC0 := aA hc0
 clear hr0 hc0
 have HB := aA (Below.refl w.heap.size w)
 have H : ((foghornref17_one.f (l0.length : Int)).bind fun t296 => (foghornref17_labels.l0 k t296 l0 (l0.length : Int) 0)) = some r := h
 clear h
 replace H := Option.bind_eq_some_iff.mp H
 obtain ⟨t296, A20, H⟩ := H
 have A2 := aA A20
 clear A20
 have H' := aA H
 clear H
 go_enter Try.func58, Try.ntmps58
 go_wp2_with (first | ((with_reducible refine gate_callee (f := 57) rfl ?_); refine goesL_ (some 8) rfl rfl Try.func57 (by kernel_rfl) rfl #[.int .i64 (l0.length : Int)] rfl mS ?_; (with_reducible refine (foghornref17_one.calls (l0.length : Int) t296 _ A2.out).mono ?_); rintro e w3 ⟨rfl, hb⟩; refine ⟨_, rfl, ?_⟩; have n0_ := aA (below_step mB hb); clear HB; have HB := n0_; clear n0_; (try clear hb); (try clear hb2); (try clear hk); (try clear hi)))
 go_loopg [3, 11] k (fun kq v3 v11 w' => ∃ (x3_1 : ByteArray) (x11_1 : Int), v3 = .string x3_1 ∧ v11 = .int .i64 x11_1 ∧ Aside0 (foghornref17_labels.l0 kq x3_1 l0 (l0.length : Int) x11_1 = some r) ∧ Aside0 (kq ≤ k) ∧ Aside0 (Below w.heap.size w w'))
 case atStart => exact ⟨(t296), (0), (by first | rfl | (simp; done) | (simp [*]; done)), (by first | rfl | (simp; done) | (simp [*]; done)), H', ⟨Nat.le_refl _⟩, ⟨by repeat (first | (with_reducible first | exact HB.out | apply below_alloc | apply pw_below_drewN | apply below_drew1) | exact HB.out)⟩⟩
 case round =>
  clear H'
  try clear p2
  obtain ⟨x3_1, x11_1, rfl, rfl, HA, HK1, HB⟩ := hrel
  cases gk with
  | zero => exact absurd HA.out (by simp [foghornref17_labels.l0])
  | succ k1 =>
   have H := HA.out
   clear HA
   simp only [foghornref17_labels.l0] at H
   by_cases c4 : x11_1 < (l0.length : Int)
   ·rw [if_pos c4] at H
    have c4b0 : decide (x11_1 < (l0.length : Int)) = true := decide_eq_true c4
    clear c4
    by_cases c5 : 0 ≤ x11_1
    ·rw [if_pos c5] at H
     have c5b0 : decide (0 ≤ x11_1) = true := decide_eq_true c5
     clear c5
     by_cases c6 : x11_1 < (l0.length : Int)
     ·rw [if_pos c6] at H
      have c6b0 : decide (x11_1 < (l0.length : Int)) = true := decide_eq_true c6
      clear c6
      replace H := Option.bind_eq_some_iff.mp H
      obtain ⟨t299, A70, H⟩ := H
      have A7 := aA A70
      clear A70
      by_cases c8 : x3_1.size + t299.size ≤ 9223372036854775807
      ·rw [if_pos c8] at H
       have c8b0 := eq_true c8
       have c8b1 := decide_eq_true c8
       try have c8b2 : (9223372036854775807 < x3_1.size + t299.size) = False := eq_false (Nat.not_lt.2 c8)
       replace H := Option.bind_eq_some_iff.mp H
       obtain ⟨t300, A90, H⟩ := H
       have A9 := aA A90
       clear A90
       by_cases c10 : (x3_1 ++ t299).size + t300.size ≤ 9223372036854775807
       ·rw [if_pos c10] at H
        have c10b0 := eq_true c10
        have c10b1 := decide_eq_true c10
        try have c10b2 : (9223372036854775807 < (x3_1 ++ t299).size + t300.size) = False := eq_false (Nat.not_lt.2 c10)
        try have c10b3 : (9223372036854775807 < (x3_1).size + (t299).size + (t300).size) = False := eq_false (by have h_ := c10; simp only [ByteArray.size_append] at h_; omega)
        have H' := aA H
        clear H
        have p297 : 0 ≤ (x11_1 : Int) := of_decide_eq_true (by first | (with_reducible assumption) | assumption)
        have q297 : x11_1 < (l0.length : Int) := of_decide_eq_true (by first | (with_reducible assumption) | assumption)
        obtain ⟨ad297, e297, hx297_0, hx297_1⟩ := at_T41 HR0.out x11_1 p297 q297
        cases e297
        replace hx297_0 := (HB.out.cell (World.block_lt_of_cell? w _ hx297_0)).trans hx297_0
        replace hx297_1 := (HB.out.cell (World.block_lt_of_cell? w _ hx297_1)).trans hx297_1
        replace p297 := eq_true p297
        replace q297 := eq_true q297
        try go_wp2_with (first | ((with_reducible refine gate_dst (N := 5) rfl ?_); refine box_event ?hg (N := 5) ?hd (cs := #[.string (⟨#[]⟩ : ByteArray), .string (⟨#[]⟩ : ByteArray)]) (t := 41) ?hr ?_; (case hd => rfl); (case hg => rfl); (case hr => first | (go_simp; done) | (go_simp; rfl)); intro gb298 hg w11 hbox hb; have n0_ := aA (below_step mB hb); have n1_ := aA (hbox); have n2_ := aA ((bZ hg mB)); have n3_ := aA ((bZ hg mB)); clear HB; have HB := n0_; have BK298 := n1_; have GW298 := n2_; have GE298 := n3_; clear n0_ n1_ n2_ n3_ hb hbox hg; obtain ⟨hcz12_0, hcz12_1⟩ := bC2 BK298.out; obtain ⟨hfz12_0, hfz12_1⟩ := bF2 BK298.out))
        have n0_ : Aside0 (((w11.setCell ⟨gb298, 0, none⟩ (.string ((rd_T41 l0 x11_1).f0))).setCell ⟨gb298, 1, none⟩ (.string ((rd_T41 l0 x11_1).f1))).heap[gb298]? = some (.cells #[.string ((rd_T41 l0 x11_1).f0), .string ((rd_T41 l0 x11_1).f1)] 41 (0, 0))) := ⟨by (with_reducible repeat (first | refine blk_drewN ?_ _ | refine blk_drew ?_ | refine blk_alloc ?_ _)); refine blk_put (cs := #[.string ((rd_T41 l0 x11_1).f0), .string (⟨#[]⟩ : ByteArray)]) ?_ 1 _ rfl; (with_reducible repeat (first | refine blk_drewN ?_ _ | refine blk_drew ?_ | refine blk_alloc ?_ _)); refine blk_put (cs := #[.string (⟨#[]⟩ : ByteArray), .string (⟨#[]⟩ : ByteArray)]) ?_ 0 _ rfl; (with_reducible repeat (first | refine blk_drewN ?_ _ | refine blk_drew ?_ | refine blk_alloc ?_ _)); exact BK298.out⟩
        have n1_ : Aside0 (Below w.heap.size w ((w11.setCell ⟨gb298, 0, none⟩ (.string ((rd_T41 l0 x11_1).f0))).setCell ⟨gb298, 1, none⟩ (.string ((rd_T41 l0 x11_1).f1)))) := ⟨by repeat (first | (with_reducible first | exact HB.out | apply below_alloc | apply pw_below_drewN | apply below_drew1 | refine below_set ?_ GE298.out) | exact HB.out)⟩
        (try clear BK298)
        (try clear HB)
        generalize ((w11.setCell ⟨gb298, 0, none⟩ (.string ((rd_T41 l0 x11_1).f0))).setCell ⟨gb298, 1, none⟩ (.string ((rd_T41 l0 x11_1).f1))) = w13 at n0_ n1_ ⊢
        have BK298 := n0_
        have HB := n1_
        clear n0_ n1_
        have n0_ := aA (blk_drew BK298.out)
        have n1_ := aA (below_drew1 HB.out)
        clear BK298
        clear HB
        have BK298 := n0_
        have HB := n1_
        clear n0_ n1_
        refine start_ (n := 10) (S := fun w' => w'.cell? ⟨gb298, 0, none⟩ = some (.string ((rd_T41 l0 x11_1).f0)) ∧ w'.cell? ⟨gb298, 1, none⟩ = some (.string ((rd_T41 l0 x11_1).f1))) (ds := []) #[false, false, false, false, false, false, false, false, false, false] (by kernel_rfl) rfl rfl (bC2 BK298.out) (fun hHeld => ?_); refine with_tabW foghornref17_labels.tab5 foghornref17_labels.bits5 (fun HT_ HW_ => ?_)
        generalize w13.drew = w14 at BK298 HB hHeld ⊢
        refine pure_ (i := 0) (N := some 15) (v := ?_) (a' := ?_) #[true, false, false, false, false, false, false, false, false, false] rfl rfl (any_of HT_.out (by kernel_rfl)) (fun _ _ _ h => h) (Or.inl ⟨by rfl, ?_⟩) ?_ ?_
        rotate_left
        ·intro w'
         go_simp
         with_reducible rfl
        rotate_left
        ·exact mP
        refine pure_ (i := 1) (N := some 16) (v := ?_) (a' := ?_) #[true, true, false, false, false, false, false, false, false, false] rfl rfl (any_of HT_.out (by kernel_rfl)) (fun _ _ _ h => h) (Or.inl ⟨by rfl, ?_⟩) ?_ ?_
        rotate_left
        ·intro w'
         go_simp
         with_reducible rfl
        rotate_left
        ·exact mP
        refine pure_ (i := 5) (N := some 20) (v := ?_) (a' := ?_) #[true, true, false, false, false, true, false, false, false, false] rfl rfl (any_of HT_.out (by kernel_rfl)) (fun _ _ _ h => h) (Or.inl ⟨by rfl, ?_⟩) ?_ ?_
        rotate_left
        ·intro w'
         go_simp
         with_reducible rfl
        rotate_left
        ·exact mP
        refine take_ (i := 2) (N := some 17) (v := ?_) (a' := ?_) #[true, true, true, false, false, true, false, false, false, false] rfl rfl (take_ofW HT_.out HW_.out (by kernel_rfl)) (fun _ _ _ h => h) (Or.inl ⟨by rfl, ?_⟩) hHeld ?_ ?_
        rotate_left
        ·rintro w' ⟨s0, s1⟩
         go_simp
         with_reducible rfl
        rotate_left
        ·exact mP
        refine take_ (i := 6) (N := some 21) (v := ?_) (a' := ?_) #[true, true, true, false, false, true, true, false, false, false] rfl rfl (take_ofW HT_.out HW_.out (by kernel_rfl)) (fun _ _ _ h => h) (Or.inl ⟨by rfl, ?_⟩) hHeld ?_ ?_
        rotate_left
        ·rintro w' ⟨s0, s1⟩
         go_simp
         with_reducible rfl
        rotate_left
        ·exact mP
        refine one_ (i := 3) (N := some 18) #[true, true, true, true, false, true, true, false, false, false] rfl rfl (one_of HT_.out (by kernel_rfl)) (by decide) (fun K hK => ?_)
        refine goes_ Try.func60 (by kernel_rfl) rfl #[.string ((rd_T41 l0 x11_1).f0)] (by rfl) rfl rfl mS ?_
        with_reducible refine (foghornref17_text.calls ((rd_T41 l0 x11_1).f0) t299 _ A7.out).mono ?_
        rintro e w15 ⟨rfl, hb⟩
        refine ⟨_, rfl, ?_⟩
        have n0_ := aA (bB BK298.out hb)
        have n1_ := aA (below_step (mD1 GE298.out) hb)
        clear BK298
        clear HB
        have BK298 := n0_
        have HB := n1_
        clear n0_ n1_
        (try clear hb)
        (try clear hb2)
        (try clear hk)
        (try clear hi)
        refine hK.out _ _ (bC2 BK298.out) (fun hHeld => ?_)
        clear hK K
        refine norm_ (a' := ?_) ?_ ?_
        rotate_left
        ·show Act.put _ (some 18) _ = _
         simp only [Act.put, List.setIfInBounds_toArray, List.set_cons_zero, List.set_cons_succ, i64_w, i32_w]
         rfl
        refine pure_ (i := 4) (N := some 19) (v := ?_) (a' := ?_) #[true, true, true, true, true, true, true, false, false, false] rfl rfl (any_of HT_.out (by kernel_rfl)) (fun _ _ _ h => h) (Or.inl ⟨by rfl, ?_⟩) ?_ ?_
        rotate_left
        ·intro w'
         go_simp
         with_reducible rfl
        rotate_left
        ·exact mP
        refine one_ (i := 7) (N := some 22) #[true, true, true, true, true, true, true, true, false, false] rfl rfl (one_of HT_.out (by kernel_rfl)) (by decide) (fun K hK => ?_)
        refine goes_ Try.func60 (by kernel_rfl) rfl #[.string ((rd_T41 l0 x11_1).f1)] (by rfl) rfl rfl mS ?_
        with_reducible refine (foghornref17_text.calls ((rd_T41 l0 x11_1).f1) t300 _ A9.out).mono ?_
        rintro e w16 ⟨rfl, hb⟩
        refine ⟨_, rfl, ?_⟩
        have n0_ := aA (bB BK298.out hb)
        have n1_ := aA (below_step (mD1 GE298.out) hb)
        clear BK298
        clear HB
        have BK298 := n0_
        have HB := n1_
        clear n0_ n1_
        (try clear hb)
        (try clear hb2)
        (try clear hk)
        (try clear hi)
        refine hK.out _ _ (bC2 BK298.out) (fun hHeld => ?_)
        clear hK K
        refine norm_ (a' := ?_) ?_ ?_
        rotate_left
        ·show Act.put _ (some 22) _ = _
         simp only [Act.put, List.setIfInBounds_toArray, List.set_cons_zero, List.set_cons_succ, i64_w, i32_w]
         rfl
        refine pure_ (i := 8) (N := some 23) (v := ?_) (a' := ?_) #[true, true, true, true, true, true, true, true, true, false] rfl rfl (any_of HT_.out (by kernel_rfl)) (fun _ _ _ h => h) (Or.inl ⟨by rfl, ?_⟩) ?_ ?_
        rotate_left
        ·intro w'
         go_simp
         with_reducible rfl
        rotate_left
        ·exact mP
        refine pure_ (i := 9) (N := some 3) (v := ?_) (a' := ?_) #[true, true, true, true, true, true, true, true, true, true] rfl rfl (any_of HT_.out (by kernel_rfl)) (fun _ _ _ h => h) (Or.inl ⟨by rfl, ?_⟩) ?_ ?_
        rotate_left
        ·intro w'
         go_simp
         with_reducible rfl
        rotate_left
        ·exact mP
        refine done_ (done_of HT_.out (by kernel_rfl)) ?_
        try go_wp2
        go_roundg k1
        case measure => have := HK1.out; omega
        case rel => exact ⟨((x3_1 ++ t299) ++ t300), (wrap64 (x11_1 + 1)), (by first | rfl | (simp; done) | (simp [*]; done)), (by first | rfl | (simp; done) | (simp [*]; done)), H', ⟨by have := HK1.out; omega⟩, ⟨by repeat (first | (with_reducible first | exact HB.out | apply below_alloc | apply pw_below_drewN | apply below_drew1 | refine below_set ?_ GE298.out) | exact HB.out)⟩⟩
       ·rw [if_neg c10] at H
        exact absurd H (by simp)
      ·rw [if_neg c8] at H
       exact absurd H (by simp)
     ·rw [if_neg c6] at H
      exact absurd H (by simp)
    ·rw [if_neg c5] at H
     exact absurd H (by simp)
   ·rw [if_neg c4] at H
    have c4b0 : decide (x11_1 < (l0.length : Int)) = false := decide_eq_false c4
    clear c4
    obtain rfl := Option.some.inj H
    go_wp2
    go_ret
    exact ⟨by first | rfl | (simp [errW_none, errW_some] <;> rfl) | (simp [*, errW_none, errW_some] <;> rfl), by repeat (first | (with_reducible first | exact HB.out | apply below_alloc | apply pw_below_drewN | apply below_drew1) | exact HB.out)⟩
end Go.Proofs.YtndgollcganhmaaQ.P
namespace Go.Proofs.YtndgollcganhmaaQ.P
open Go.RowKit Go.Proofs.YtndgollcganhmaaW.PrintWords Go.Proofs.YtndgollcganhmaaW.PrintLast Go.Proofs.YtndgollcganhmaaW.PrintMore
attribute [local go_sem] max2_int min2_int max_two min_two max_three min_three max_four min_four
def foghornref17_six.l0 : Nat → Int → ByteArray → Int → Option (ByteArray)
 | 0, _, _, _ => none
 | k + 1, x0, x3, x4 => if x4 < 6 then ((foghornref17_one.f (Int.tmod x0 256)).bind fun t301 => (if t301.size + x3.size ≤ 9223372036854775807 then (foghornref17_six.l0 k (wrap64 (Int.tdiv x0 256)) (t301 ++ x3) (wrap64 (x4 + 1))) else (none))) else (some x3)
def foghornref17_six.f (k : Nat) (a0 : Int) : Option (ByteArray) := foghornref17_six.l0 k a0 (⟨#[]⟩ : ByteArray) 0
set_option maxHeartbeats 8000000 in
set_option maxRecDepth 100000 in
theorem foghornref17_six.calls (k : Nat) (a0 : Int) (r : ByteArray) (w : World) (h : foghornref17_six.f k a0 = some r) :
  Calls Try.prog 59 #[.int .i64 a0] w fun e w' => e = .returned (.string r) ∧ Below w.heap.size w w' := by
 have HB := aA (Below.refl w.heap.size w)
 have H : (foghornref17_six.l0 k a0 (⟨#[]⟩ : ByteArray) 0) = some r := h
 clear h
 have H' := aA H
 clear H
 go_enter Try.func59, Try.ntmps59
 go_wp2
 go_loopg [0, 3, 4] k (fun kq v0 v3 v4 w' => ∃ (x0_1 : Int) (x3_1 : ByteArray) (x4_1 : Int), v0 = .int .i64 x0_1 ∧ v3 = .string x3_1 ∧ v4 = .int .i64 x4_1 ∧ Aside0 (foghornref17_six.l0 kq x0_1 x3_1 x4_1 = some r) ∧ Aside0 (kq ≤ k) ∧ Aside0 (Below w.heap.size w w'))
 case atStart => exact ⟨(a0), ((⟨#[]⟩ : ByteArray)), (0), (by first | rfl | (simp; done) | (simp [*]; done)), (by first | rfl | (simp; done) | (simp [*]; done)), (by first | rfl | (simp; done) | (simp [*]; done)), H', ⟨Nat.le_refl _⟩, ⟨by repeat (first | (with_reducible first | exact HB.out | apply below_alloc | apply pw_below_drewN | apply below_drew1) | exact HB.out)⟩⟩
 case round =>
  clear H'
  obtain ⟨x0_1, x3_1, x4_1, rfl, rfl, rfl, HA, HK1, HB⟩ := hrel
  cases gk with
  | zero => exact absurd HA.out (by simp [foghornref17_six.l0])
  | succ k1 =>
   have H := HA.out
   clear HA
   simp only [foghornref17_six.l0] at H
   by_cases c2 : x4_1 < 6
   ·rw [if_pos c2] at H
    have c2b0 : decide (x4_1 < 6) = true := decide_eq_true c2
    clear c2
    replace H := Option.bind_eq_some_iff.mp H
    obtain ⟨t301, A30, H⟩ := H
    have A3 := aA A30
    clear A30
    by_cases c4 : t301.size + x3_1.size ≤ 9223372036854775807
    ·rw [if_pos c4] at H
     have c4b0 := eq_true c4
     have c4b1 := decide_eq_true c4
     try have c4b2 : (9223372036854775807 < t301.size + x3_1.size) = False := eq_false (Nat.not_lt.2 c4)
     have H' := aA H
     clear H
     go_wp2_with (first | ((with_reducible refine gate_callee (f := 57) rfl ?_); refine goesL_ (some 11) rfl rfl Try.func57 (by kernel_rfl) rfl #[.int .i64 (Int.tmod x0_1 256)] rfl mS ?_; (with_reducible refine (foghornref17_one.calls (Int.tmod x0_1 256) t301 _ A3.out).mono ?_); rintro e w5 ⟨rfl, hb⟩; refine ⟨_, rfl, ?_⟩; have n0_ := aA (below_step mB hb); clear HB; have HB := n0_; clear n0_; (try clear hb); (try clear hb2); (try clear hk); (try clear hi)))
     go_roundg k1
     case measure => have := HK1.out; omega
     case rel => exact ⟨(wrap64 (Int.tdiv x0_1 256)), (t301 ++ x3_1), (wrap64 (x4_1 + 1)), (by first | rfl | (simp; done) | (simp [*]; done)), (by first | rfl | (simp; done) | (simp [*]; done)), (by first | rfl | (simp; done) | (simp [*]; done)), H', ⟨by have := HK1.out; omega⟩, ⟨by repeat (first | (with_reducible first | exact HB.out | apply below_alloc | apply pw_below_drewN | apply below_drew1) | exact HB.out)⟩⟩
    ·rw [if_neg c4] at H
     exact absurd H (by simp)
   ·rw [if_neg c2] at H
    have c2b0 : decide (x4_1 < 6) = false := decide_eq_false c2
    clear c2
    obtain rfl := Option.some.inj H
    go_wp2
    go_ret
    exact ⟨by first | rfl | (simp [errW_none, errW_some] <;> rfl) | (simp [*, errW_none, errW_some] <;> rfl), by repeat (first | (with_reducible first | exact HB.out | apply below_alloc | apply pw_below_drewN | apply below_drew1) | exact HB.out)⟩
end Go.Proofs.YtndgollcganhmaaQ.P
