/- Part 2 of a proof: contracts and plain laws of what the statement reaches. No condition. -/
import Derived.Shelf.Abstract
import Derived.Shelf.Strings.Builder1
import Derived.Shelf.Strings.Builder2
import Derived.Shelf.Small.Bits
import Derived.Shelf.Strings.BuilderF
import Derived.Shelf.Strings.BuilderK
import Derived.Shelf.Strings.Builder2Cap
import Derived.Shelf.Strconv.Itoa0
import Derived.Shelf.Strings.Prefix
import Derived.Shelf.Bits.Mul64
import Derived.Shelf.Strings.Repeat
import Derived.Shelf.Strings.BuilderCap
import Derived.Test.YtndgollcganhmaaProg
import Derived.Laws.EntriesVeiled
import Derived.Shelf.SlGeneric
import Derived.Shelf.SlSortCmp.SmallK
import Derived.Shelf.SlicesE.Clone
import Derived.Ground.SlsfProg
import Derived.Ground.SlgnProg
import Derived.Ground.NamesProg
import Derived.Shelf.SlSortFuncK.HeapSortK
import Derived.Test.YtndgollcganhmaaChecked
import Derived.Lib.Builder
import Derived.Lib.OthersKept
import Derived.Lib.BufferKept
import Derived.Lib.OwnKind
import Derived.Lib.AppendStr
import Derived.Lib.UnsafeStr
import Derived.WalkKit
import Derived.Laws.CopyOwn
import Derived.Laws.BytesArg
import Derived.Laws.BitsLemmas
import Derived.Lib.Repeat
import Derived.Laws.Entries
import Derived.Test.YtndgollcganhmaaCodeApartz1
set_option linter.unusedVariables false
set_option linter.unusedSimpArgs false
namespace Go.Proofs.YtndgollcganhmaaQ.P
open Go.RowKit Go.Proofs.YtndgollcganhmaaW.PrintWords Go.Proofs.YtndgollcganhmaaW.PrintLast Go.Proofs.YtndgollcganhmaaW.PrintMore
attribute [local go_sem] max2_int min2_int max_two min_two max_three min_three max_four min_four
def code_isDuty.f (l0_0 : List (S41)) (a0_1 : Int) (a0_2 : Int) (a0_3 : Int) (a0_4 : Int) (a0_5 : Int) : Option (Bool) := if a0_1 ≥ 0 then (if a0_1 < 4 then (if a0_2 ≥ 0 then (if a0_2 < 4 then (if a0_3 ≥ 0 then (if a0_3 ≤ 99 then ((label_Right.f l0_0).bind fun t224 => (if t224 = true then ((tick_Right.f a0_4).bind fun t225 => (if t225 = true then (if a0_5 ≥ 1 then (some (decide (a0_5 ≤ 3))) else (some false)) else (some false))) else (some false))) else (some false)) else (some false)) else (some false)) else (some false)) else (some false)) else (some false)
set_option maxHeartbeats 8000000 in
set_option maxRecDepth 100000 in
theorem code_isDuty.calls (A0_0 : Option Addr) (c0_0 : Nat) (l0_0 : List (S41)) (a0_1 : Int) (a0_2 : Int) (a0_3 : Int) (a0_4 : Int) (a0_5 : Int) (r : Bool) (w : World) (hr0_0 : Kd.C k41 w A0_0 l0_0.length l0_0) (hc0_0 : l0_0.length ≤ c0_0) (h : code_isDuty.f l0_0 a0_1 a0_2 a0_3 a0_4 a0_5 = some r) :
  Calls Try.prog 49 #[.agg #[.slice A0_0 l0_0.length c0_0, .int .i64 a0_1, .int .i64 a0_2, .int .i64 a0_3, .int .i64 a0_4, .int .i64 a0_5]] w fun e w' => e = .returned (.bool r) ∧ Below w.heap.size w w' := by
 have hu46 := Try.underlying46
 have HR0_0 := aA hr0_0
 have HC0_0 := aA hc0_0
 clear hr0_0 hc0_0
 have HB := aA (Below.refl w.heap.size w)
 have H : (if a0_1 ≥ 0 then (if a0_1 < 4 then (if a0_2 ≥ 0 then (if a0_2 < 4 then (if a0_3 ≥ 0 then (if a0_3 ≤ 99 then ((label_Right.f l0_0).bind fun t224 => (if t224 = true then ((tick_Right.f a0_4).bind fun t225 => (if t225 = true then (if a0_5 ≥ 1 then (some (decide (a0_5 ≤ 3))) else (some false)) else (some false))) else (some false))) else (some false)) else (some false)) else (some false)) else (some false)) else (some false)) else (some false)) = some r := h
 clear h
 by_cases c2 : a0_1 ≥ 0
 ·rw [if_pos c2] at H
  have c2b0 : decide (0 ≤ a0_1) = true := decide_eq_true c2
  clear c2
  by_cases c3 : a0_1 < 4
  ·rw [if_pos c3] at H
   have c3b0 : decide (a0_1 < 4) = true := decide_eq_true c3
   clear c3
   by_cases c4 : a0_2 ≥ 0
   ·rw [if_pos c4] at H
    have c4b0 : decide (0 ≤ a0_2) = true := decide_eq_true c4
    clear c4
    by_cases c5 : a0_2 < 4
    ·rw [if_pos c5] at H
     have c5b0 : decide (a0_2 < 4) = true := decide_eq_true c5
     clear c5
     by_cases c6 : a0_3 ≥ 0
     ·rw [if_pos c6] at H
      have c6b0 : decide (0 ≤ a0_3) = true := decide_eq_true c6
      clear c6
      by_cases c7 : a0_3 ≤ 99
      ·rw [if_pos c7] at H
       have c7b0 : decide (a0_3 ≤ 99) = true := decide_eq_true c7
       clear c7
       replace H := Option.bind_eq_some_iff.mp H
       obtain ⟨t224, A80, H⟩ := H
       have A8 := aA A80
       clear A80
       by_cases c9 : t224 = true
       ·subst c9
        have H1 : ((tick_Right.f a0_4).bind fun t225 => (if t225 = true then (if a0_5 ≥ 1 then (some (decide (a0_5 ≤ 3))) else (some false)) else (some false))) = some r := by rw [if_pos rfl] at H; exact H
        clear H
        have H := H1
        clear H1
        replace H := Option.bind_eq_some_iff.mp H
        obtain ⟨t225, A100, H⟩ := H
        have A10 := aA A100
        clear A100
        by_cases c11 : t225 = true
        ·subst c11
         have H1 : (if a0_5 ≥ 1 then (some (decide (a0_5 ≤ 3))) else (some false)) = some r := by rw [if_pos rfl] at H; exact H
         clear H
         have H := H1
         clear H1
         by_cases c12 : a0_5 ≥ 1
         ·rw [if_pos c12] at H
          have c12b0 : decide (1 ≤ a0_5) = true := decide_eq_true c12
          clear c12
          obtain rfl := Option.some.inj H
          go_enter Try.func49, Try.ntmps49
          go_wp2_with (first | ((with_reducible refine gate_dst (N := 1) rfl ?_); refine box_event ?hg (N := 1) ?hd (cs := #[.slice A0_0 l0_0.length c0_0, .int .i64 a0_1, .int .i64 a0_2, .int .i64 a0_3, .int .i64 a0_4, .int .i64 a0_5]) (t := 46) ?hr ?_; (case hd => rfl); (case hg => rfl); (case hr => first | (go_simp; done) | (go_simp; rfl)); intro gb223 hg w13 hbox hb; have n0_ := aA (below_step mB hb); have n1_ := aA (hbox); have n2_ := aA ((bZ hg mB)); have n3_ := aA ((bZ hg mB)); clear HB; have HB := n0_; have BK223 := n1_; have GW223 := n2_; have GE223 := n3_; clear n0_ n1_ n2_ n3_ hb hbox hg; obtain ⟨hcz14_0, hcz14_1, hcz14_2, hcz14_3, hcz14_4, hcz14_5⟩ := bC6 BK223.out; obtain ⟨hfz14_0, hfz14_1, hfz14_2, hfz14_3, hfz14_4, hfz14_5⟩ := bF6 BK223.out) | (go_at_call 15; (with_reducible refine (label_Right.calls _ _ l0_0 true _ ?side1 ?side2 A8.out).mono ?_); (case side1 => exact mC ((Kd.C_below HR0_0.out HB.out))); (case side2 => exact HC0_0.out); rintro e w15 ⟨rfl, hb⟩; have n0_ := aA (bB BK223.out hb); have n1_ := aA (below_step (mD1 GE223.out) hb); clear BK223 HB; have BK223 := n0_; have HB := n1_; clear n0_ n1_; (try clear hb); (try clear hb2); (try clear hk); (try clear hi); obtain ⟨hcz16_0, hcz16_1, hcz16_2, hcz16_3, hcz16_4, hcz16_5⟩ := bC6 BK223.out; obtain ⟨hfz16_0, hfz16_1, hfz16_2, hfz16_3, hfz16_4, hfz16_5⟩ := bF6 BK223.out) | (go_at_call 84; (with_reducible refine (tick_Right.calls a0_4 true _ A10.out).mono ?_); rintro e w' ⟨rfl, ⟨nd, rfl⟩⟩))
          go_ret
          exact ⟨by first | rfl | (simp [errW_none, errW_some] <;> rfl) | (simp [*, errW_none, errW_some] <;> rfl), by repeat (first | (with_reducible first | exact HB.out | apply below_alloc | apply pw_below_drewN | apply below_drew1 | refine below_set ?_ GE223.out) | exact HB.out)⟩
         ·rw [if_neg c12] at H
          have c12b0 : decide (1 ≤ a0_5) = false := decide_eq_false c12
          clear c12
          obtain rfl := Option.some.inj H
          go_enter Try.func49, Try.ntmps49
          go_wp2_with (first | ((with_reducible refine gate_dst (N := 1) rfl ?_); refine box_event ?hg (N := 1) ?hd (cs := #[.slice A0_0 l0_0.length c0_0, .int .i64 a0_1, .int .i64 a0_2, .int .i64 a0_3, .int .i64 a0_4, .int .i64 a0_5]) (t := 46) ?hr ?_; (case hd => rfl); (case hg => rfl); (case hr => first | (go_simp; done) | (go_simp; rfl)); intro gb223 hg w17 hbox hb; have n0_ := aA (below_step mB hb); have n1_ := aA (hbox); have n2_ := aA ((bZ hg mB)); have n3_ := aA ((bZ hg mB)); clear HB; have HB := n0_; have BK223 := n1_; have GW223 := n2_; have GE223 := n3_; clear n0_ n1_ n2_ n3_ hb hbox hg; obtain ⟨hcz18_0, hcz18_1, hcz18_2, hcz18_3, hcz18_4, hcz18_5⟩ := bC6 BK223.out; obtain ⟨hfz18_0, hfz18_1, hfz18_2, hfz18_3, hfz18_4, hfz18_5⟩ := bF6 BK223.out) | (go_at_call 15; (with_reducible refine (label_Right.calls _ _ l0_0 true _ ?side1 ?side2 A8.out).mono ?_); (case side1 => exact mC ((Kd.C_below HR0_0.out HB.out))); (case side2 => exact HC0_0.out); rintro e w19 ⟨rfl, hb⟩; have n0_ := aA (bB BK223.out hb); have n1_ := aA (below_step (mD1 GE223.out) hb); clear BK223 HB; have BK223 := n0_; have HB := n1_; clear n0_ n1_; (try clear hb); (try clear hb2); (try clear hk); (try clear hi); obtain ⟨hcz20_0, hcz20_1, hcz20_2, hcz20_3, hcz20_4, hcz20_5⟩ := bC6 BK223.out; obtain ⟨hfz20_0, hfz20_1, hfz20_2, hfz20_3, hfz20_4, hfz20_5⟩ := bF6 BK223.out) | (go_at_call 84; (with_reducible refine (tick_Right.calls a0_4 true _ A10.out).mono ?_); rintro e w' ⟨rfl, ⟨nd, rfl⟩⟩))
          go_ret
          exact ⟨by first | rfl | (simp [errW_none, errW_some] <;> rfl) | (simp [*, errW_none, errW_some] <;> rfl), by repeat (first | (with_reducible first | exact HB.out | apply below_alloc | apply pw_below_drewN | apply below_drew1 | refine below_set ?_ GE223.out) | exact HB.out)⟩
        ·replace c11 := Bool.eq_false_iff.mpr c11
         subst c11
         have H1 : (some false) = some r := by rw [if_neg (show ¬ (false = true) by decide)] at H; exact H
         clear H
         have H := H1
         clear H1
         obtain rfl := Option.some.inj H
         go_enter Try.func49, Try.ntmps49
         go_wp2_with (first | ((with_reducible refine gate_dst (N := 1) rfl ?_); refine box_event ?hg (N := 1) ?hd (cs := #[.slice A0_0 l0_0.length c0_0, .int .i64 a0_1, .int .i64 a0_2, .int .i64 a0_3, .int .i64 a0_4, .int .i64 a0_5]) (t := 46) ?hr ?_; (case hd => rfl); (case hg => rfl); (case hr => first | (go_simp; done) | (go_simp; rfl)); intro gb223 hg w21 hbox hb; have n0_ := aA (below_step mB hb); have n1_ := aA (hbox); have n2_ := aA ((bZ hg mB)); have n3_ := aA ((bZ hg mB)); clear HB; have HB := n0_; have BK223 := n1_; have GW223 := n2_; have GE223 := n3_; clear n0_ n1_ n2_ n3_ hb hbox hg; obtain ⟨hcz22_0, hcz22_1, hcz22_2, hcz22_3, hcz22_4, hcz22_5⟩ := bC6 BK223.out; obtain ⟨hfz22_0, hfz22_1, hfz22_2, hfz22_3, hfz22_4, hfz22_5⟩ := bF6 BK223.out) | (go_at_call 15; (with_reducible refine (label_Right.calls _ _ l0_0 true _ ?side1 ?side2 A8.out).mono ?_); (case side1 => exact mC ((Kd.C_below HR0_0.out HB.out))); (case side2 => exact HC0_0.out); rintro e w23 ⟨rfl, hb⟩; have n0_ := aA (bB BK223.out hb); have n1_ := aA (below_step (mD1 GE223.out) hb); clear BK223 HB; have BK223 := n0_; have HB := n1_; clear n0_ n1_; (try clear hb); (try clear hb2); (try clear hk); (try clear hi); obtain ⟨hcz24_0, hcz24_1, hcz24_2, hcz24_3, hcz24_4, hcz24_5⟩ := bC6 BK223.out; obtain ⟨hfz24_0, hfz24_1, hfz24_2, hfz24_3, hfz24_4, hfz24_5⟩ := bF6 BK223.out) | (go_at_call 84; (with_reducible refine (tick_Right.calls a0_4 false _ A10.out).mono ?_); rintro e w' ⟨rfl, ⟨nd, rfl⟩⟩))
         go_ret
         exact ⟨by first | rfl | (simp [errW_none, errW_some] <;> rfl) | (simp [*, errW_none, errW_some] <;> rfl), by repeat (first | (with_reducible first | exact HB.out | apply below_alloc | apply pw_below_drewN | apply below_drew1 | refine below_set ?_ GE223.out) | exact HB.out)⟩
       ·replace c9 := Bool.eq_false_iff.mpr c9
        subst c9
        have H1 : (some false) = some r := by rw [if_neg (show ¬ (false = true) by decide)] at H; exact H
        clear H
        have H := H1
        clear H1
        obtain rfl := Option.some.inj H
        go_enter Try.func49, Try.ntmps49
        go_wp2_with (first | ((with_reducible refine gate_dst (N := 1) rfl ?_); refine box_event ?hg (N := 1) ?hd (cs := #[.slice A0_0 l0_0.length c0_0, .int .i64 a0_1, .int .i64 a0_2, .int .i64 a0_3, .int .i64 a0_4, .int .i64 a0_5]) (t := 46) ?hr ?_; (case hd => rfl); (case hg => rfl); (case hr => first | (go_simp; done) | (go_simp; rfl)); intro gb223 hg w25 hbox hb; have n0_ := aA (below_step mB hb); have n1_ := aA (hbox); have n2_ := aA ((bZ hg mB)); have n3_ := aA ((bZ hg mB)); clear HB; have HB := n0_; have BK223 := n1_; have GW223 := n2_; have GE223 := n3_; clear n0_ n1_ n2_ n3_ hb hbox hg; obtain ⟨hcz26_0, hcz26_1, hcz26_2, hcz26_3, hcz26_4, hcz26_5⟩ := bC6 BK223.out; obtain ⟨hfz26_0, hfz26_1, hfz26_2, hfz26_3, hfz26_4, hfz26_5⟩ := bF6 BK223.out) | (go_at_call 15; (with_reducible refine (label_Right.calls _ _ l0_0 false _ ?side1 ?side2 A8.out).mono ?_); (case side1 => exact mC ((Kd.C_below HR0_0.out HB.out))); (case side2 => exact HC0_0.out); rintro e w27 ⟨rfl, hb⟩; have n0_ := aA (bB BK223.out hb); have n1_ := aA (below_step (mD1 GE223.out) hb); clear BK223 HB; have BK223 := n0_; have HB := n1_; clear n0_ n1_; (try clear hb); (try clear hb2); (try clear hk); (try clear hi)))
        go_ret
        exact ⟨by first | rfl | (simp [errW_none, errW_some] <;> rfl) | (simp [*, errW_none, errW_some] <;> rfl), by repeat (first | (with_reducible first | exact HB.out | apply below_alloc | apply pw_below_drewN | apply below_drew1 | refine below_set ?_ GE223.out) | exact HB.out)⟩
      ·rw [if_neg c7] at H
       have c7b0 : decide (a0_3 ≤ 99) = false := decide_eq_false c7
       clear c7
       obtain rfl := Option.some.inj H
       go_enter Try.func49, Try.ntmps49
       go_wp2_with (first | ((with_reducible refine gate_dst (N := 1) rfl ?_); refine box_event ?hg (N := 1) ?hd (cs := #[.slice A0_0 l0_0.length c0_0, .int .i64 a0_1, .int .i64 a0_2, .int .i64 a0_3, .int .i64 a0_4, .int .i64 a0_5]) (t := 46) ?hr ?_; (case hd => rfl); (case hg => rfl); (case hr => first | (go_simp; done) | (go_simp; rfl)); intro gb223 hg w28 hbox hb; have n0_ := aA (below_step mB hb); have n1_ := aA (hbox); have n2_ := aA ((bZ hg mB)); have n3_ := aA ((bZ hg mB)); clear HB; have HB := n0_; have BK223 := n1_; have GW223 := n2_; have GE223 := n3_; clear n0_ n1_ n2_ n3_ hb hbox hg; obtain ⟨hcz29_0, hcz29_1, hcz29_2, hcz29_3, hcz29_4, hcz29_5⟩ := bC6 BK223.out; obtain ⟨hfz29_0, hfz29_1, hfz29_2, hfz29_3, hfz29_4, hfz29_5⟩ := bF6 BK223.out))
       go_ret
       exact ⟨by first | rfl | (simp [errW_none, errW_some] <;> rfl) | (simp [*, errW_none, errW_some] <;> rfl), by repeat (first | (with_reducible first | exact HB.out | apply below_alloc | apply pw_below_drewN | apply below_drew1 | refine below_set ?_ GE223.out) | exact HB.out)⟩
     ·rw [if_neg c6] at H
      have c6b0 : decide (0 ≤ a0_3) = false := decide_eq_false c6
      clear c6
      obtain rfl := Option.some.inj H
      go_enter Try.func49, Try.ntmps49
      go_wp2_with (first | ((with_reducible refine gate_dst (N := 1) rfl ?_); refine box_event ?hg (N := 1) ?hd (cs := #[.slice A0_0 l0_0.length c0_0, .int .i64 a0_1, .int .i64 a0_2, .int .i64 a0_3, .int .i64 a0_4, .int .i64 a0_5]) (t := 46) ?hr ?_; (case hd => rfl); (case hg => rfl); (case hr => first | (go_simp; done) | (go_simp; rfl)); intro gb223 hg w30 hbox hb; have n0_ := aA (below_step mB hb); have n1_ := aA (hbox); have n2_ := aA ((bZ hg mB)); have n3_ := aA ((bZ hg mB)); clear HB; have HB := n0_; have BK223 := n1_; have GW223 := n2_; have GE223 := n3_; clear n0_ n1_ n2_ n3_ hb hbox hg; obtain ⟨hcz31_0, hcz31_1, hcz31_2, hcz31_3, hcz31_4, hcz31_5⟩ := bC6 BK223.out; obtain ⟨hfz31_0, hfz31_1, hfz31_2, hfz31_3, hfz31_4, hfz31_5⟩ := bF6 BK223.out))
      go_ret
      exact ⟨by first | rfl | (simp [errW_none, errW_some] <;> rfl) | (simp [*, errW_none, errW_some] <;> rfl), by repeat (first | (with_reducible first | exact HB.out | apply below_alloc | apply pw_below_drewN | apply below_drew1 | refine below_set ?_ GE223.out) | exact HB.out)⟩
    ·rw [if_neg c5] at H
     have c5b0 : decide (a0_2 < 4) = false := decide_eq_false c5
     clear c5
     obtain rfl := Option.some.inj H
     go_enter Try.func49, Try.ntmps49
     go_wp2_with (first | ((with_reducible refine gate_dst (N := 1) rfl ?_); refine box_event ?hg (N := 1) ?hd (cs := #[.slice A0_0 l0_0.length c0_0, .int .i64 a0_1, .int .i64 a0_2, .int .i64 a0_3, .int .i64 a0_4, .int .i64 a0_5]) (t := 46) ?hr ?_; (case hd => rfl); (case hg => rfl); (case hr => first | (go_simp; done) | (go_simp; rfl)); intro gb223 hg w32 hbox hb; have n0_ := aA (below_step mB hb); have n1_ := aA (hbox); have n2_ := aA ((bZ hg mB)); have n3_ := aA ((bZ hg mB)); clear HB; have HB := n0_; have BK223 := n1_; have GW223 := n2_; have GE223 := n3_; clear n0_ n1_ n2_ n3_ hb hbox hg; obtain ⟨hcz33_0, hcz33_1, hcz33_2, hcz33_3, hcz33_4, hcz33_5⟩ := bC6 BK223.out; obtain ⟨hfz33_0, hfz33_1, hfz33_2, hfz33_3, hfz33_4, hfz33_5⟩ := bF6 BK223.out))
     go_ret
     exact ⟨by first | rfl | (simp [errW_none, errW_some] <;> rfl) | (simp [*, errW_none, errW_some] <;> rfl), by repeat (first | (with_reducible first | exact HB.out | apply below_alloc | apply pw_below_drewN | apply below_drew1 | refine below_set ?_ GE223.out) | exact HB.out)⟩
   ·rw [if_neg c4] at H
    have c4b0 : decide (0 ≤ a0_2) = false := decide_eq_false c4
    clear c4
    obtain rfl := Option.some.inj H
    go_enter Try.func49, Try.ntmps49
    go_wp2_with (first | ((with_reducible refine gate_dst (N := 1) rfl ?_); refine box_event ?hg (N := 1) ?hd (cs := #[.slice A0_0 l0_0.length c0_0, .int .i64 a0_1, .int .i64 a0_2, .int .i64 a0_3, .int .i64 a0_4, .int .i64 a0_5]) (t := 46) ?hr ?_; (case hd => rfl); (case hg => rfl); (case hr => first | (go_simp; done) | (go_simp; rfl)); intro gb223 hg w34 hbox hb; have n0_ := aA (below_step mB hb); have n1_ := aA (hbox); have n2_ := aA ((bZ hg mB)); have n3_ := aA ((bZ hg mB)); clear HB; have HB := n0_; have BK223 := n1_; have GW223 := n2_; have GE223 := n3_; clear n0_ n1_ n2_ n3_ hb hbox hg; obtain ⟨hcz35_0, hcz35_1, hcz35_2, hcz35_3, hcz35_4, hcz35_5⟩ := bC6 BK223.out; obtain ⟨hfz35_0, hfz35_1, hfz35_2, hfz35_3, hfz35_4, hfz35_5⟩ := bF6 BK223.out))
    go_ret
    exact ⟨by first | rfl | (simp [errW_none, errW_some] <;> rfl) | (simp [*, errW_none, errW_some] <;> rfl), by repeat (first | (with_reducible first | exact HB.out | apply below_alloc | apply pw_below_drewN | apply below_drew1 | refine below_set ?_ GE223.out) | exact HB.out)⟩
  ·rw [if_neg c3] at H
   have c3b0 : decide (a0_1 < 4) = false := decide_eq_false c3
   clear c3
   obtain rfl := Option.some.inj H
   go_enter Try.func49, Try.ntmps49
   go_wp2_with (first | ((with_reducible refine gate_dst (N := 1) rfl ?_); refine box_event ?hg (N := 1) ?hd (cs := #[.slice A0_0 l0_0.length c0_0, .int .i64 a0_1, .int .i64 a0_2, .int .i64 a0_3, .int .i64 a0_4, .int .i64 a0_5]) (t := 46) ?hr ?_; (case hd => rfl); (case hg => rfl); (case hr => first | (go_simp; done) | (go_simp; rfl)); intro gb223 hg w36 hbox hb; have n0_ := aA (below_step mB hb); have n1_ := aA (hbox); have n2_ := aA ((bZ hg mB)); have n3_ := aA ((bZ hg mB)); clear HB; have HB := n0_; have BK223 := n1_; have GW223 := n2_; have GE223 := n3_; clear n0_ n1_ n2_ n3_ hb hbox hg; obtain ⟨hcz37_0, hcz37_1, hcz37_2, hcz37_3, hcz37_4, hcz37_5⟩ := bC6 BK223.out; obtain ⟨hfz37_0, hfz37_1, hfz37_2, hfz37_3, hfz37_4, hfz37_5⟩ := bF6 BK223.out))
   go_ret
   exact ⟨by first | rfl | (simp [errW_none, errW_some] <;> rfl) | (simp [*, errW_none, errW_some] <;> rfl), by repeat (first | (with_reducible first | exact HB.out | apply below_alloc | apply pw_below_drewN | apply below_drew1 | refine below_set ?_ GE223.out) | exact HB.out)⟩
 ·rw [if_neg c2] at H
  have c2b0 : decide (0 ≤ a0_1) = false := decide_eq_false c2
  clear c2
  obtain rfl := Option.some.inj H
  go_enter Try.func49, Try.ntmps49
  go_wp2_with (first | ((with_reducible refine gate_dst (N := 1) rfl ?_); refine box_event ?hg (N := 1) ?hd (cs := #[.slice A0_0 l0_0.length c0_0, .int .i64 a0_1, .int .i64 a0_2, .int .i64 a0_3, .int .i64 a0_4, .int .i64 a0_5]) (t := 46) ?hr ?_; (case hd => rfl); (case hg => rfl); (case hr => first | (go_simp; done) | (go_simp; rfl)); intro gb223 hg w38 hbox hb; have n0_ := aA (below_step mB hb); have n1_ := aA (hbox); have n2_ := aA ((bZ hg mB)); have n3_ := aA ((bZ hg mB)); clear HB; have HB := n0_; have BK223 := n1_; have GW223 := n2_; have GE223 := n3_; clear n0_ n1_ n2_ n3_ hb hbox hg; obtain ⟨hcz39_0, hcz39_1, hcz39_2, hcz39_3, hcz39_4, hcz39_5⟩ := bC6 BK223.out; obtain ⟨hfz39_0, hfz39_1, hfz39_2, hfz39_3, hfz39_4, hfz39_5⟩ := bF6 BK223.out))
  go_ret
  exact ⟨by first | rfl | (simp [errW_none, errW_some] <;> rfl) | (simp [*, errW_none, errW_some] <;> rfl), by repeat (first | (with_reducible first | exact HB.out | apply below_alloc | apply pw_below_drewN | apply below_drew1 | refine below_set ?_ GE223.out) | exact HB.out)⟩
end Go.Proofs.YtndgollcganhmaaQ.P
namespace Go.Proofs.YtndgollcganhmaaQ.P
open Go.RowKit Go.Proofs.YtndgollcganhmaaW.PrintWords Go.Proofs.YtndgollcganhmaaW.PrintLast Go.Proofs.YtndgollcganhmaaW.PrintMore
attribute [local go_sem] max2_int min2_int max_two min_two max_three min_three max_four min_four
def code_noHush.f (a0_0 : Int) (a0_1 : Int) (l0_2 : List (S35)) : Option (Bool) := if a0_0 = 0 then (if a0_1 = 0 then (some ((l0_2.length : Int) == 0)) else (some false)) else (some false)
set_option maxHeartbeats 8000000 in
set_option maxRecDepth 100000 in
theorem code_noHush.calls (a0_0 : Int) (a0_1 : Int) (A0_2 : Option Addr) (c0_2 : Nat) (l0_2 : List (S35)) (r : Bool) (w : World) (hr0_2 : Kd.C k35 w A0_2 l0_2.length l0_2) (hc0_2 : l0_2.length ≤ c0_2) (h : code_noHush.f a0_0 a0_1 l0_2 = some r) :
  Calls Try.prog 50 #[.agg #[.int .i64 a0_0, .int .i64 a0_1, .slice A0_2 l0_2.length c0_2]] w fun e w' => e = .returned (.bool r) ∧ Below w.heap.size w w' := by
 have hu48 := Try.underlying48
 have HR0_2 := aA hr0_2
 have HC0_2 := aA hc0_2
 clear hr0_2 hc0_2
 have HB := aA (Below.refl w.heap.size w)
 have H : (if a0_0 = 0 then (if a0_1 = 0 then (some ((l0_2.length : Int) == 0)) else (some false)) else (some false)) = some r := h
 clear h
 by_cases c2 : a0_0 = 0
 ·rw [if_pos c2] at H
  have c2b0 : (a0_0 == 0) = true := beq_iff_eq.mpr c2
  have c2b1 : (a0_0 != 0) = false := bne_eq_false_iff_eq.mpr c2
  clear c2
  by_cases c3 : a0_1 = 0
  ·rw [if_pos c3] at H
   have c3b0 : (a0_1 == 0) = true := beq_iff_eq.mpr c3
   have c3b1 : (a0_1 != 0) = false := bne_eq_false_iff_eq.mpr c3
   clear c3
   obtain rfl := Option.some.inj H
   go_enter Try.func50, Try.ntmps50
   go_wp2_with (first | ((with_reducible refine gate_dst (N := 1) rfl ?_); (try (refine gate_guard (by rfl) ?_; dsimp only)); refine box_event ?hg (N := 1) ?hd (cs := #[.int .i64 a0_0, .int .i64 a0_1, .slice A0_2 l0_2.length c0_2]) (t := 48) ?hr ?_; (case hd => rfl); (case hg => rfl); (case hr => first | (go_simp; done) | (go_simp; rfl)); intro gb226 hg w4 hbox hb; have n0_ := aA (below_step mB hb); have n1_ := aA (hbox); have n2_ := aA ((bZ hg mB)); have n3_ := aA ((bZ hg mB)); clear HB; have HB := n0_; have BK226 := n1_; have GW226 := n2_; have GE226 := n3_; clear n0_ n1_ n2_ n3_ hb hbox hg; obtain ⟨hcz5_0, hcz5_1, hcz5_2⟩ := bC3 BK226.out; obtain ⟨hfz5_0, hfz5_1, hfz5_2⟩ := bF3 BK226.out))
   go_ret
   exact ⟨by first | rfl | (simp [errW_none, errW_some] <;> rfl) | (simp [*, errW_none, errW_some] <;> rfl), by repeat (first | (with_reducible first | exact HB.out | apply below_alloc | apply pw_below_drewN | apply below_drew1 | refine below_set ?_ GE226.out) | exact HB.out)⟩
  ·rw [if_neg c3] at H
   have c3b0 : (a0_1 == 0) = false := beq_eq_false_iff_ne.mpr c3
   have c3b1 : (a0_1 != 0) = true := bne_iff_ne.mpr c3
   obtain rfl := Option.some.inj H
   go_enter Try.func50, Try.ntmps50
   go_wp2_with (first | ((with_reducible refine gate_dst (N := 1) rfl ?_); (try (refine gate_guard (by rfl) ?_; dsimp only)); refine box_event ?hg (N := 1) ?hd (cs := #[.int .i64 a0_0, .int .i64 a0_1, .slice A0_2 l0_2.length c0_2]) (t := 48) ?hr ?_; (case hd => rfl); (case hg => rfl); (case hr => first | (go_simp; done) | (go_simp; rfl)); intro gb226 hg w6 hbox hb; have n0_ := aA (below_step mB hb); have n1_ := aA (hbox); have n2_ := aA ((bZ hg mB)); have n3_ := aA ((bZ hg mB)); clear HB; have HB := n0_; have BK226 := n1_; have GW226 := n2_; have GE226 := n3_; clear n0_ n1_ n2_ n3_ hb hbox hg; obtain ⟨hcz7_0, hcz7_1, hcz7_2⟩ := bC3 BK226.out; obtain ⟨hfz7_0, hfz7_1, hfz7_2⟩ := bF3 BK226.out))
   go_ret
   exact ⟨by first | rfl | (simp [errW_none, errW_some] <;> rfl) | (simp [*, errW_none, errW_some] <;> rfl), by repeat (first | (with_reducible first | exact HB.out | apply below_alloc | apply pw_below_drewN | apply below_drew1 | refine below_set ?_ GE226.out) | exact HB.out)⟩
 ·rw [if_neg c2] at H
  have c2b0 : (a0_0 == 0) = false := beq_eq_false_iff_ne.mpr c2
  have c2b1 : (a0_0 != 0) = true := bne_iff_ne.mpr c2
  obtain rfl := Option.some.inj H
  go_enter Try.func50, Try.ntmps50
  go_wp2_with (first | ((with_reducible refine gate_dst (N := 1) rfl ?_); (try (refine gate_guard (by rfl) ?_; dsimp only)); refine box_event ?hg (N := 1) ?hd (cs := #[.int .i64 a0_0, .int .i64 a0_1, .slice A0_2 l0_2.length c0_2]) (t := 48) ?hr ?_; (case hd => rfl); (case hg => rfl); (case hr => first | (go_simp; done) | (go_simp; rfl)); intro gb226 hg w8 hbox hb; have n0_ := aA (below_step mB hb); have n1_ := aA (hbox); have n2_ := aA ((bZ hg mB)); have n3_ := aA ((bZ hg mB)); clear HB; have HB := n0_; have BK226 := n1_; have GW226 := n2_; have GE226 := n3_; clear n0_ n1_ n2_ n3_ hb hbox hg; obtain ⟨hcz9_0, hcz9_1, hcz9_2⟩ := bC3 BK226.out; obtain ⟨hfz9_0, hfz9_1, hfz9_2⟩ := bF3 BK226.out))
  go_ret
  exact ⟨by first | rfl | (simp [errW_none, errW_some] <;> rfl) | (simp [*, errW_none, errW_some] <;> rfl), by repeat (first | (with_reducible first | exact HB.out | apply below_alloc | apply pw_below_drewN | apply below_drew1 | refine below_set ?_ GE226.out) | exact HB.out)⟩
end Go.Proofs.YtndgollcganhmaaQ.P
namespace Go.Proofs.YtndgollcganhmaaQ.P
open Go.RowKit Go.Proofs.YtndgollcganhmaaW.PrintWords Go.Proofs.YtndgollcganhmaaW.PrintLast Go.Proofs.YtndgollcganhmaaW.PrintMore
attribute [local go_sem] max2_int min2_int max_two min_two max_three min_three max_four min_four
def code_noDuty.f (l0_0 : List (S41)) (a0_1 : Int) (a0_2 : Int) (a0_3 : Int) (a0_4 : Int) (a0_5 : Int) : Option (Bool) := if (l0_0.length : Int) = 0 then (if a0_1 = 0 then (if a0_2 = 0 then (if a0_3 = 0 then (if a0_4 = 0 then (some (a0_5 == 0)) else (some false)) else (some false)) else (some false)) else (some false)) else (some false)
set_option maxHeartbeats 8000000 in
set_option maxRecDepth 100000 in
theorem code_noDuty.calls (A0_0 : Option Addr) (c0_0 : Nat) (l0_0 : List (S41)) (a0_1 : Int) (a0_2 : Int) (a0_3 : Int) (a0_4 : Int) (a0_5 : Int) (r : Bool) (w : World) (hr0_0 : Kd.C k41 w A0_0 l0_0.length l0_0) (hc0_0 : l0_0.length ≤ c0_0) (h : code_noDuty.f l0_0 a0_1 a0_2 a0_3 a0_4 a0_5 = some r) :
  Calls Try.prog 51 #[.agg #[.slice A0_0 l0_0.length c0_0, .int .i64 a0_1, .int .i64 a0_2, .int .i64 a0_3, .int .i64 a0_4, .int .i64 a0_5]] w fun e w' => e = .returned (.bool r) ∧ Below w.heap.size w w' := by
 have hu46 := Try.underlying46
 have HR0_0 := aA hr0_0
 have HC0_0 := aA hc0_0
 clear hr0_0 hc0_0
 have HB := aA (Below.refl w.heap.size w)
 have H : (if (l0_0.length : Int) = 0 then (if a0_1 = 0 then (if a0_2 = 0 then (if a0_3 = 0 then (if a0_4 = 0 then (some (a0_5 == 0)) else (some false)) else (some false)) else (some false)) else (some false)) else (some false)) = some r := h
 clear h
 by_cases c2 : (l0_0.length : Int) = 0
 ·rw [if_pos c2] at H
  have c2b0 : ((l0_0.length : Int) == 0) = true := beq_iff_eq.mpr c2
  have c2b1 : ((l0_0.length : Int) != 0) = false := bne_eq_false_iff_eq.mpr c2
  clear c2
  by_cases c3 : a0_1 = 0
  ·rw [if_pos c3] at H
   have c3b0 : (a0_1 == 0) = true := beq_iff_eq.mpr c3
   have c3b1 : (a0_1 != 0) = false := bne_eq_false_iff_eq.mpr c3
   clear c3
   by_cases c4 : a0_2 = 0
   ·rw [if_pos c4] at H
    have c4b0 : (a0_2 == 0) = true := beq_iff_eq.mpr c4
    have c4b1 : (a0_2 != 0) = false := bne_eq_false_iff_eq.mpr c4
    clear c4
    by_cases c5 : a0_3 = 0
    ·rw [if_pos c5] at H
     have c5b0 : (a0_3 == 0) = true := beq_iff_eq.mpr c5
     have c5b1 : (a0_3 != 0) = false := bne_eq_false_iff_eq.mpr c5
     clear c5
     by_cases c6 : a0_4 = 0
     ·rw [if_pos c6] at H
      have c6b0 : (a0_4 == 0) = true := beq_iff_eq.mpr c6
      have c6b1 : (a0_4 != 0) = false := bne_eq_false_iff_eq.mpr c6
      clear c6
      obtain rfl := Option.some.inj H
      go_enter Try.func51, Try.ntmps51
      go_wp2_with (first | ((with_reducible refine gate_dst (N := 1) rfl ?_); refine box_event ?hg (N := 1) ?hd (cs := #[.slice A0_0 l0_0.length c0_0, .int .i64 a0_1, .int .i64 a0_2, .int .i64 a0_3, .int .i64 a0_4, .int .i64 a0_5]) (t := 46) ?hr ?_; (case hd => rfl); (case hg => rfl); (case hr => first | (go_simp; done) | (go_simp; rfl)); intro gb227 hg w7 hbox hb; have n0_ := aA (below_step mB hb); have n1_ := aA (hbox); have n2_ := aA ((bZ hg mB)); have n3_ := aA ((bZ hg mB)); clear HB; have HB := n0_; have BK227 := n1_; have GW227 := n2_; have GE227 := n3_; clear n0_ n1_ n2_ n3_ hb hbox hg; obtain ⟨hcz8_0, hcz8_1, hcz8_2, hcz8_3, hcz8_4, hcz8_5⟩ := bC6 BK227.out; obtain ⟨hfz8_0, hfz8_1, hfz8_2, hfz8_3, hfz8_4, hfz8_5⟩ := bF6 BK227.out))
      go_ret
      exact ⟨by first | rfl | (simp [errW_none, errW_some] <;> rfl) | (simp [*, errW_none, errW_some] <;> rfl), by repeat (first | (with_reducible first | exact HB.out | apply below_alloc | apply pw_below_drewN | apply below_drew1 | refine below_set ?_ GE227.out) | exact HB.out)⟩
     ·rw [if_neg c6] at H
      have c6b0 : (a0_4 == 0) = false := beq_eq_false_iff_ne.mpr c6
      have c6b1 : (a0_4 != 0) = true := bne_iff_ne.mpr c6
      obtain rfl := Option.some.inj H
      go_enter Try.func51, Try.ntmps51
      go_wp2_with (first | ((with_reducible refine gate_dst (N := 1) rfl ?_); refine box_event ?hg (N := 1) ?hd (cs := #[.slice A0_0 l0_0.length c0_0, .int .i64 a0_1, .int .i64 a0_2, .int .i64 a0_3, .int .i64 a0_4, .int .i64 a0_5]) (t := 46) ?hr ?_; (case hd => rfl); (case hg => rfl); (case hr => first | (go_simp; done) | (go_simp; rfl)); intro gb227 hg w9 hbox hb; have n0_ := aA (below_step mB hb); have n1_ := aA (hbox); have n2_ := aA ((bZ hg mB)); have n3_ := aA ((bZ hg mB)); clear HB; have HB := n0_; have BK227 := n1_; have GW227 := n2_; have GE227 := n3_; clear n0_ n1_ n2_ n3_ hb hbox hg; obtain ⟨hcz10_0, hcz10_1, hcz10_2, hcz10_3, hcz10_4, hcz10_5⟩ := bC6 BK227.out; obtain ⟨hfz10_0, hfz10_1, hfz10_2, hfz10_3, hfz10_4, hfz10_5⟩ := bF6 BK227.out))
      go_ret
      exact ⟨by first | rfl | (simp [errW_none, errW_some] <;> rfl) | (simp [*, errW_none, errW_some] <;> rfl), by repeat (first | (with_reducible first | exact HB.out | apply below_alloc | apply pw_below_drewN | apply below_drew1 | refine below_set ?_ GE227.out) | exact HB.out)⟩
    ·rw [if_neg c5] at H
     have c5b0 : (a0_3 == 0) = false := beq_eq_false_iff_ne.mpr c5
     have c5b1 : (a0_3 != 0) = true := bne_iff_ne.mpr c5
     obtain rfl := Option.some.inj H
     go_enter Try.func51, Try.ntmps51
     go_wp2_with (first | ((with_reducible refine gate_dst (N := 1) rfl ?_); refine box_event ?hg (N := 1) ?hd (cs := #[.slice A0_0 l0_0.length c0_0, .int .i64 a0_1, .int .i64 a0_2, .int .i64 a0_3, .int .i64 a0_4, .int .i64 a0_5]) (t := 46) ?hr ?_; (case hd => rfl); (case hg => rfl); (case hr => first | (go_simp; done) | (go_simp; rfl)); intro gb227 hg w11 hbox hb; have n0_ := aA (below_step mB hb); have n1_ := aA (hbox); have n2_ := aA ((bZ hg mB)); have n3_ := aA ((bZ hg mB)); clear HB; have HB := n0_; have BK227 := n1_; have GW227 := n2_; have GE227 := n3_; clear n0_ n1_ n2_ n3_ hb hbox hg; obtain ⟨hcz12_0, hcz12_1, hcz12_2, hcz12_3, hcz12_4, hcz12_5⟩ := bC6 BK227.out; obtain ⟨hfz12_0, hfz12_1, hfz12_2, hfz12_3, hfz12_4, hfz12_5⟩ := bF6 BK227.out))
     go_ret
     exact ⟨by first | rfl | (simp [errW_none, errW_some] <;> rfl) | (simp [*, errW_none, errW_some] <;> rfl), by repeat (first | (with_reducible first | exact HB.out | apply below_alloc | apply pw_below_drewN | apply below_drew1 | refine below_set ?_ GE227.out) | exact HB.out)⟩
   ·rw [if_neg c4] at H
    have c4b0 : (a0_2 == 0) = false := beq_eq_false_iff_ne.mpr c4
    have c4b1 : (a0_2 != 0) = true := bne_iff_ne.mpr c4
    obtain rfl := Option.some.inj H
    go_enter Try.func51, Try.ntmps51
    go_wp2_with (first | ((with_reducible refine gate_dst (N := 1) rfl ?_); refine box_event ?hg (N := 1) ?hd (cs := #[.slice A0_0 l0_0.length c0_0, .int .i64 a0_1, .int .i64 a0_2, .int .i64 a0_3, .int .i64 a0_4, .int .i64 a0_5]) (t := 46) ?hr ?_; (case hd => rfl); (case hg => rfl); (case hr => first | (go_simp; done) | (go_simp; rfl)); intro gb227 hg w13 hbox hb; have n0_ := aA (below_step mB hb); have n1_ := aA (hbox); have n2_ := aA ((bZ hg mB)); have n3_ := aA ((bZ hg mB)); clear HB; have HB := n0_; have BK227 := n1_; have GW227 := n2_; have GE227 := n3_; clear n0_ n1_ n2_ n3_ hb hbox hg; obtain ⟨hcz14_0, hcz14_1, hcz14_2, hcz14_3, hcz14_4, hcz14_5⟩ := bC6 BK227.out; obtain ⟨hfz14_0, hfz14_1, hfz14_2, hfz14_3, hfz14_4, hfz14_5⟩ := bF6 BK227.out))
    go_ret
    exact ⟨by first | rfl | (simp [errW_none, errW_some] <;> rfl) | (simp [*, errW_none, errW_some] <;> rfl), by repeat (first | (with_reducible first | exact HB.out | apply below_alloc | apply pw_below_drewN | apply below_drew1 | refine below_set ?_ GE227.out) | exact HB.out)⟩
  ·rw [if_neg c3] at H
   have c3b0 : (a0_1 == 0) = false := beq_eq_false_iff_ne.mpr c3
   have c3b1 : (a0_1 != 0) = true := bne_iff_ne.mpr c3
   obtain rfl := Option.some.inj H
   go_enter Try.func51, Try.ntmps51
   go_wp2_with (first | ((with_reducible refine gate_dst (N := 1) rfl ?_); refine box_event ?hg (N := 1) ?hd (cs := #[.slice A0_0 l0_0.length c0_0, .int .i64 a0_1, .int .i64 a0_2, .int .i64 a0_3, .int .i64 a0_4, .int .i64 a0_5]) (t := 46) ?hr ?_; (case hd => rfl); (case hg => rfl); (case hr => first | (go_simp; done) | (go_simp; rfl)); intro gb227 hg w15 hbox hb; have n0_ := aA (below_step mB hb); have n1_ := aA (hbox); have n2_ := aA ((bZ hg mB)); have n3_ := aA ((bZ hg mB)); clear HB; have HB := n0_; have BK227 := n1_; have GW227 := n2_; have GE227 := n3_; clear n0_ n1_ n2_ n3_ hb hbox hg; obtain ⟨hcz16_0, hcz16_1, hcz16_2, hcz16_3, hcz16_4, hcz16_5⟩ := bC6 BK227.out; obtain ⟨hfz16_0, hfz16_1, hfz16_2, hfz16_3, hfz16_4, hfz16_5⟩ := bF6 BK227.out))
   go_ret
   exact ⟨by first | rfl | (simp [errW_none, errW_some] <;> rfl) | (simp [*, errW_none, errW_some] <;> rfl), by repeat (first | (with_reducible first | exact HB.out | apply below_alloc | apply pw_below_drewN | apply below_drew1 | refine below_set ?_ GE227.out) | exact HB.out)⟩
 ·rw [if_neg c2] at H
  have c2b0 : ((l0_0.length : Int) == 0) = false := beq_eq_false_iff_ne.mpr c2
  have c2b1 : ((l0_0.length : Int) != 0) = true := bne_iff_ne.mpr c2
  have c2b2 : ¬ (l0_0 = []) := fun h_ => c2 (by rw [h_]; rfl)
  obtain rfl := Option.some.inj H
  go_enter Try.func51, Try.ntmps51
  go_wp2_with (first | ((with_reducible refine gate_dst (N := 1) rfl ?_); refine box_event ?hg (N := 1) ?hd (cs := #[.slice A0_0 l0_0.length c0_0, .int .i64 a0_1, .int .i64 a0_2, .int .i64 a0_3, .int .i64 a0_4, .int .i64 a0_5]) (t := 46) ?hr ?_; (case hd => rfl); (case hg => rfl); (case hr => first | (go_simp; done) | (go_simp; rfl)); intro gb227 hg w17 hbox hb; have n0_ := aA (below_step mB hb); have n1_ := aA (hbox); have n2_ := aA ((bZ hg mB)); have n3_ := aA ((bZ hg mB)); clear HB; have HB := n0_; have BK227 := n1_; have GW227 := n2_; have GE227 := n3_; clear n0_ n1_ n2_ n3_ hb hbox hg; obtain ⟨hcz18_0, hcz18_1, hcz18_2, hcz18_3, hcz18_4, hcz18_5⟩ := bC6 BK227.out; obtain ⟨hfz18_0, hfz18_1, hfz18_2, hfz18_3, hfz18_4, hfz18_5⟩ := bF6 BK227.out))
  go_ret
  exact ⟨by first | rfl | (simp [errW_none, errW_some] <;> rfl) | (simp [*, errW_none, errW_some] <;> rfl), by repeat (first | (with_reducible first | exact HB.out | apply below_alloc | apply pw_below_drewN | apply below_drew1 | refine below_set ?_ GE227.out) | exact HB.out)⟩
end Go.Proofs.YtndgollcganhmaaQ.P
namespace Go.Proofs.Ytndgollcganhmaa
open Go.RowKit
attribute [local go_sem high] ext_size ext_cell ext_frozen alloc_cell alloc_frozen
def PredM (f : FuncId) (caps : Array Value) (w : World) (p : Mat → Bool) (xs : List Mat) : Prop :=
  ∀ x ∈ xs, ∀ W, Below w.heap.size w W → Calls Try.prog f (#[matV x] ++ caps) W fun e W' => e = .returned (.bool (p x)) ∧ Below W.heap.size W W'
theorem indexFuncM (v : Value) (xs : List Mat) (f : FuncId) (caps : Array Value) (p : Mat → Bool) (w : World) (hS : SlAt w v 3 xs.length (matsC xs)) (hp : PredM f caps w p xs) (hf : Enters Try.prog f) :
    Calls Try.prog 75 #[v, .func (.func f) #[] caps] w fun e w' => e = .returned (.int .i64 (idxOf p xs)) ∧ Below w.heap.size w w' := by
  obtain ⟨a, c, rfl, hnc, hcm⟩ := hS.form
  have hm := hS.le
  have HS := Lib.hid hS
  have HP := Lib.hid hp
  clear hS hp
  unfold maxLen at hm
  go_enter Try.func75, Try.ntmps75
  go_wp2
  go_loopw [5, 8] (fun _ i wr => ∃ k : Nat, k ≤ xs.length ∧ i = .int .i64 k ∧ (∀ j (hj : j < xs.length), j < k → p xs[j] = false) ∧ Below w.heap.size w wr) (fun _ i _ => xs.length - (intOf i).toNat)
  case atStart => exact ⟨0, Nat.zero_le _, rfl, fun j _ hj => absurd hj (by omega), Below.refl _ _⟩
  case round =>
    obtain ⟨k, hk, rfl, hno, hbel⟩ := hrel
    have HN := Lib.hid hno
    clear hno
    obtain ⟨xr, rfl⟩ := ext_of hbel
    by_cases hlt : k < xs.length
    · obtain ⟨b, o, rfl, hbl, hcell⟩ := HS.out.at (by omega)
      have hg := mats_get xs k hlt
      have hck0 : w.cell? ⟨b, o + k * 3, none⟩ = some (.int .i64 xs[k].kind) := by exact hcell _ _ hg.1
      have hck1 : w.cell? ⟨b, o + k * 3 + 1, none⟩ = some (.string xs[k].name) := by rw [Nat.add_assoc]; exact hcell _ _ hg.2.1
      have hck2 : w.cell? ⟨b, o + k * 3 + 2, none⟩ = some (.string xs[k].value) := by rw [Nat.add_assoc]; exact hcell _ _ hg.2.2
      clear hcell hg
      have hcall : Calls Try.prog f (#[Value.agg #[.int .i64 xs[k].kind, .string xs[k].name, .string xs[k].value]] ++ caps) (ext w xr) fun e W' => e = .returned (.bool (p xs[k])) ∧ Below (ext w xr).heap.size (ext w xr) W' := HP.out xs[k] (List.getElem_mem hlt) (ext w xr) hbel
      have he := hf (#[Value.agg #[.int .i64 xs[k].kind, .string xs[k].name, .string xs[k].value]] ++ caps) (ext w xr)
      cases hpx : p xs[k]
      all_goals
        rw [hpx] at hcall
        have HX := Lib.hid hpx
        have HC := Lib.hid hcall
        clear hpx hcall hbel
        go_wp2_with (refine Calls.mono HC.out ?_; rintro e w1 ⟨rfl, hb1⟩)
      · refine ⟨⟨k + 1, by omega, by go_num, fun j hj hjk => ?_, bel (ext_bel w xr) hb1⟩, by simp [intOf]; omega⟩
        rcases Nat.lt_succ_iff_lt_or_eq.1 hjk with h | rfl
        · exact HN.out j hj h
        · exact HX.out
      · go_ret
        exact ⟨ret_int (idxOf_found hlt HX.out fun j hj => HN.out j (by omega) hj).symm, bel (ext_bel w xr) hb1⟩
    · obtain rfl : k = xs.length := by omega
      go_wp2
      go_ret
      exact ⟨ret_int (idxOf_none fun j hj => HN.out j hj hj).symm, ext_bel w xr⟩
theorem containsFuncM (v : Value) (xs : List Mat) (f : FuncId) (caps : Array Value) (p : Mat → Bool) (w : World) (hS : SlAt w v 3 xs.length (matsC xs)) (hp : PredM f caps w p xs) (hf : Enters Try.prog f) :
    Calls Try.prog 37 #[v, .func (.func f) #[] caps] w fun e w' => e = .returned (.bool (xs.any p)) ∧ Below w.heap.size w w' := by
  have hi := Lib.hid (idxOf_any p xs)
  have HI := Lib.hid (indexFuncM v xs f caps p w hS hp hf)
  obtain ⟨a, c, rfl, hnc, hcm⟩ := hS.form
  clear hp hS
  go_enter Try.func37, Try.ntmps37
  go_wp2_with fail
  refine HI.out.mono ?_
  rintro e w1 ⟨rfl, hb1⟩
  go_wp2
  go_ret
  exact ⟨ret_bool hi.out, hb1⟩
end Go.Proofs.Ytndgollcganhmaa
namespace Go.Proofs
open Go.Shelf
def Try.lays105_ren : Go.Shelf.Ren := ⟨fun | 105 => 109 | 212 => 117 | 99 => 104 | 165 => 118 | 166 => 107 | 170 => 119 | 169 => 83 | 263 => 122 | 264 => 123 | 206 => 115 | 240 => 116 | 241 => 124 | 276 => 121 | 277 => 125 | n => n, fun | 9 => 9 | 3 => 3 | 4 => 4 | 20 => 20 | 0 => 0 | 46 => 95 | 109 => 146 | 5 => 5 | 72 => 108 | 76 => 136 | 51 => 129 | 146 => 153 | 53 => 131 | 148 => 155 | 70 => 105 | 37 => 106 | 75 => 134 | 127 => 138 | 164 => 151 | 80 => 115 | n => n, fun | n => n⟩
theorem Try.lays105 : Go.Proofs.Lays.n105 Try.prog Try.lays105_ren := {
  mixed := by kernel_rfl
  f99 := Try.func104.trans (congrArg some (by kernel_rfl))
  f105 := Try.func109.trans (congrArg some (by kernel_rfl))
  f165 := Try.func118.trans (congrArg some (by kernel_rfl))
  f166 := Try.func107.trans (congrArg some (by kernel_rfl))
  f169 := Try.func83.trans (congrArg some (by kernel_rfl))
  f170 := Try.func119.trans (congrArg some (by kernel_rfl))
  f206 := Try.func115.trans (congrArg some (by kernel_rfl))
  f212 := Try.func117.trans (congrArg some (by kernel_rfl))
  f240 := Try.func116.trans (congrArg some (by kernel_rfl))
  f241 := Try.func124.trans (congrArg some (by kernel_rfl))
  f263 := Try.func122.trans (congrArg some (by kernel_rfl))
  f264 := Try.func123.trans (congrArg some (by kernel_rfl))
  f276 := Try.func121.trans (congrArg some (by kernel_rfl))
  f277 := Try.func125.trans (congrArg some (by kernel_rfl))
  t0 := Try.underlying0
  a0 := Try.isAgg0
  z0 := Try.sizeOf0
  v0 := Try.zeroValue0
  t3 := Try.underlying3
  a3 := Try.isAgg3
  z3 := Try.sizeOf3
  v3 := Try.zeroValue3
  t4 := Try.underlying4
  a4 := Try.isAgg4
  z4 := Try.sizeOf4
  v4 := Try.zeroValue4
  t5 := Try.underlying5
  a5 := Try.isAgg5
  z5 := Try.sizeOf5
  v5 := Try.zeroValue5
  t9 := Try.underlying9
  a9 := Try.isAgg9
  z9 := Try.sizeOf9
  v9 := Try.zeroValue9
  t20 := Try.underlying20
  a20 := Try.isAgg20
  z20 := Try.sizeOf20
  v20 := Try.zeroValue20
  t37 := Try.underlying106
  a37 := Try.isAgg106
  z37 := Try.sizeOf106
  v37 := Try.zeroValue106
  t46 := Try.underlying95
  a46 := Try.isAgg95
  z46 := Try.sizeOf95
  v46 := Try.zeroValue95
  t51 := Try.underlying129
  a51 := Try.isAgg129
  z51 := Try.sizeOf129
  v51 := Try.zeroValue129
  t53 := Try.underlying131
  a53 := Try.isAgg131
  z53 := Try.sizeOf131
  v53 := Try.zeroValue131
  t70 := Try.underlying105
  a70 := Try.isAgg105
  z70 := Try.sizeOf105
  v70 := Try.zeroValue105
  t72 := Try.underlying108
  a72 := Try.isAgg108
  z72 := Try.sizeOf108
  v72 := Try.zeroValue108
  t75 := Try.underlying134
  a75 := Try.isAgg134
  z75 := Try.sizeOf134
  v75 := Try.zeroValue134
  t76 := Try.underlying136
  a76 := Try.isAgg136
  z76 := Try.sizeOf136
  v76 := Try.zeroValue136
  t109 := Try.underlying146
  a109 := Try.isAgg146
  z109 := Try.sizeOf146
  v109 := Try.zeroValue146
  t127 := Try.underlying138
  a127 := Try.isAgg138
  z127 := Try.sizeOf138
  v127 := Try.zeroValue138
  t146 := Try.underlying153
  a146 := Try.isAgg153
  z146 := Try.sizeOf153
  v146 := Try.zeroValue153
  t148 := Try.underlying155
  a148 := Try.isAgg155
  z148 := Try.sizeOf155
  v148 := Try.zeroValue155
  t164 := Try.underlying151
  a164 := Try.isAgg151
  z164 := Try.sizeOf151
  v164 := Try.zeroValue151 }
theorem Try.Builder_Extra_105 : Builder.Extra Try.prog Try.lays105_ren := {
  sizeBuilder := by kernel_rfl
  liesBuilder := by kernel_rfl
  t5 := Try.underlying5
  a5 := Try.isAgg5
  z5 := Try.sizeOf5
  v5 := Try.zeroValue5
  infoByte := by kernel_rfl
  cellsByte := by kernel_rfl
  sizeByte := by kernel_rfl
  neB5 := by decide }
open Go.RowKit Go.Lib in
theorem Try.strings_Repeat (s : ByteArray) (c : Nat) (w : World) (hc : c ≤ 9223372036854775807) (hlen : s.size * c ≤ 140737488355328) :
    Calls Try.prog 109 #[.string s, .int .i64 c] w fun e w' => e = .returned (.string ⟨(Lib.repeatL s.data.toList c).toArray⟩) ∧ Below w.heap.size w w' := Any.strings_Repeat Try.lays105 Try.Builder_Extra_105 s c w hc hlen
end Go.Proofs
namespace Go.Proofs.Ytndgollcganhmaa
open Go.RowKit
attribute [local go_sem high] ext_size ext_cell ext_frozen alloc_cell alloc_frozen
attribute [local go_sem] lt_more lt_suc drew_size drew_cell
theorem empty_dec (s : ByteArray) : s.toList.isEmpty = decide (s.size = 0) := by
  have := nonempty_dec s
  cases h : s.toList.isEmpty
  · rw [h] at this
    have h1 : 1 ≤ s.size := by simpa using this.symm
    rw [decide_eq_false (by omega)]
  · rw [h] at this
    have h1 : ¬ 1 ≤ s.size := by simpa using this.symm
    rw [decide_eq_true (by omega)]
def MatsOk (xs : List Mat) : Prop := ∀ x ∈ xs, x.name.size ≤ maxLen ∧ x.value.size ≤ maxLen
theorem matcher_any (x : Mat) (w : World) (h1 : x.name.size ≤ maxLen) (h2 : x.value.size ≤ maxLen) :
    Calls Try.prog 19 #[matV x] w fun e w' => e = .returned (.bool (matB x)) ∧ Below w.heap.size w w' := by
  obtain ⟨k, n, v⟩ := x
  have HN := Lib.hid fun W => isName_any n W h1
  have HV := Lib.hid fun W => isValue_any v W h2
  unfold matV matB
  simp only at h1 h2 ⊢
  obtain ⟨b1, hb1⟩ : ∃ b, b = nameB n := ⟨_, rfl⟩
  obtain ⟨b2, hb2⟩ : ∃ b, b = valB v := ⟨_, rfl⟩
  rw [← hb1] at HN ⊢
  rw [← hb2] at HV ⊢
  clear hb1 hb2
  have he := empty_dec v
  by_cases c1 : 0 ≤ k ∧ k ≤ 3
  · obtain ⟨c1, c2⟩ := c1
    cases b1
    case false =>
      go_enter Try.func19, Try.ntmps19
      go_wp2_with fail
      refine (HN.out _).mono ?_
      rintro e w' ⟨rfl, hb⟩
      obtain ⟨y1, rfl⟩ := ext_of hb
      clear hb
      go_wp2_with fail
      go_ret
      exact ⟨ret_bool (by simp [c1, c2]), (by repeat (first | exact Below.refl _ _ | apply bal | apply bext | apply bdr | apply bdrN | (refine bst ?_ _ (by simp only [ext_size, size_alloc, size_set]; omega))))⟩
    case true =>
      cases b2
      case false =>
        go_enter Try.func19, Try.ntmps19
        go_wp2_with fail
        refine (HN.out _).mono ?_
        rintro e w' ⟨rfl, hb⟩
        obtain ⟨y1, rfl⟩ := ext_of hb
        clear hb
        go_wp2_with fail
        refine (HV.out _).mono ?_
        rintro e w' ⟨rfl, hb⟩
        obtain ⟨y2, rfl⟩ := ext_of hb
        clear hb
        go_wp2_with fail
        go_ret
        exact ⟨ret_bool (by simp [c1, c2]), (by repeat (first | exact Below.refl _ _ | apply bal | apply bext | apply bdr | apply bdrN | (refine bst ?_ _ (by simp only [ext_size, size_alloc, size_set]; omega))))⟩
      case true =>
        by_cases c3 : k = 3
        · subst c3
          have HE := Lib.hid he
          clear he
          go_enter Try.func19, Try.ntmps19
          go_wp2_with fail
          refine (HN.out _).mono ?_
          rintro e w' ⟨rfl, hb⟩
          obtain ⟨y1, rfl⟩ := ext_of hb
          clear hb
          go_wp2_with fail
          refine (HV.out _).mono ?_
          rintro e w' ⟨rfl, hb⟩
          obtain ⟨y2, rfl⟩ := ext_of hb
          clear hb
          go_wp2_with fail
          all_goals
            go_ret
            refine ⟨ret_bool ?_, (by repeat (first | exact Below.refl _ _ | apply bal | apply bext | apply bdr | apply bdrN | (refine bst ?_ _ (by simp only [ext_size, size_alloc, size_set]; omega))))⟩
            have := HE.out
            simp_all
        · have c4 : (k != 3) = true := by simpa using c3
          clear he
          go_enter Try.func19, Try.ntmps19
          go_wp2_with fail
          refine (HN.out _).mono ?_
          rintro e w' ⟨rfl, hb⟩
          obtain ⟨y1, rfl⟩ := ext_of hb
          clear hb
          go_wp2_with fail
          refine (HV.out _).mono ?_
          rintro e w' ⟨rfl, hb⟩
          obtain ⟨y2, rfl⟩ := ext_of hb
          clear hb
          go_wp2_with fail
          go_ret
          exact ⟨ret_bool (by simp [c1, c2, c3]), (by repeat (first | exact Below.refl _ _ | apply bal | apply bext | apply bdr | apply bdrN | (refine bst ?_ _ (by simp only [ext_size, size_alloc, size_set]; omega))))⟩
  · clear he
    rcases (show k < 0 ∨ 3 < k by omega) with c2 | c2
    all_goals
      go_enter Try.func19, Try.ntmps19
      go_wp2_with fail
      all_goals
        go_ret
        refine ⟨ret_bool ?_, (by repeat (first | exact Below.refl _ _ | apply bal | apply bext | apply bdr | apply bdrN | (refine bst ?_ _ (by simp only [ext_size, size_alloc, size_set]; omega))))⟩
        first
          | (rw [decide_eq_false (p := 0 ≤ k) (by omega)]; rfl)
          | (rw [decide_eq_false (p := k ≤ 3) (by omega)]; simp)
end Go.Proofs.Ytndgollcganhmaa
namespace Go.Proofs.Ytndgollcganhmaa
open Go.RowKit
attribute [local go_sem high] ext_size ext_cell ext_frozen alloc_cell alloc_frozen
theorem lab_ext {x y : Lab} (h : (x.name.toList == y.name.toList) = true) (h2 : (x.value.toList == y.value.toList) = true) : x = y := by
  obtain ⟨n, v⟩ := x
  obtain ⟨n2, v2⟩ := y
  have e1 : n = n2 := bytes_of_eq h
  have e2 : v = v2 := bytes_of_eq h2
  rw [e1, e2]
theorem refSameL_any (u v : Value) (xs ys : List Lab) (w : World) (hS : SlAt w u 2 xs.length (labsC xs)) (hT : SlAt w v 2 ys.length (labsC ys)) :
    Calls Try.prog 17 #[u, v] w fun e w' => e = .returned (.bool (decide (xs = ys))) ∧ Below w.heap.size w w' := by
  obtain ⟨a, c, rfl, hnc, hcm⟩ := hS.form
  obtain ⟨a2, c2, rfl, hnc2, hcm2⟩ := hT.form
  have hm := hS.le
  unfold maxLen at hm
  have HS := Lib.hid hS
  have HT := Lib.hid hT
  clear hS hT
  obtain ⟨n, hxn⟩ : ∃ n, xs.length = n := ⟨_, rfl⟩
  obtain ⟨n2, hyn⟩ : ∃ n, ys.length = n := ⟨_, rfl⟩
  rw [hxn] at HS hm hnc ⊢
  rw [hyn] at HT hnc2 ⊢
  have HXN := Lib.hid hxn
  have HYN := Lib.hid hyn
  obtain ⟨r, hr⟩ : ∃ r, r = decide (xs = ys) := ⟨_, rfl⟩
  rw [← hr]
  have HR := Lib.hid hr
  clear hxn hyn hr
  by_cases hl : n = n2
  · subst hl
    go_enter Try.func17, Try.ntmps17
    go_wp2
    go_loopw [5, 13] (fun _ i wr => ∃ k : Nat, k ≤ n ∧ i = .int .i64 k ∧ (∀ j (h1 : j < xs.length) (h2 : j < ys.length), j < k → xs[j] = ys[j]) ∧ Below w.heap.size w wr) (fun _ i _ => n - (intOf i).toNat)
    case atStart => exact ⟨0, Nat.zero_le _, rfl, fun j _ _ hj => absurd hj (by omega), Below.refl _ _⟩
    case round =>
      obtain ⟨k, hk, rfl, hno, hbel⟩ := hrel
      have HN := Lib.hid hno
      clear hno
      obtain ⟨xr, rfl⟩ := ext_of hbel
      clear hbel
      by_cases hlt : k < n
      · have hl1 : k < xs.length := by rw [HXN.out]; exact hlt
        have hl2 : k < ys.length := by rw [HYN.out]; exact hlt
        obtain ⟨b, o, rfl, hbl, hcell⟩ := HS.out.at (by omega)
        have g0 := labs_get xs k hl1
        have k0 : w.cell? ⟨b, o + k * 2, none⟩ = some (.string xs[k].name) := hcell _ _ g0.1
        have k1 : w.cell? ⟨b, o + k * 2 + 1, none⟩ = some (.string xs[k].value) := by rw [Nat.add_assoc]; exact hcell _ _ g0.2
        clear hcell g0
        obtain ⟨b2, o2, rfl, hbl2, hcell⟩ := HT.out.at (by omega)
        have g0 := labs_get ys k hl2
        have k2 : w.cell? ⟨b2, o2 + k * 2, none⟩ = some (.string ys[k].name) := hcell _ _ g0.1
        have k3 : w.cell? ⟨b2, o2 + k * 2 + 1, none⟩ = some (.string ys[k].value) := by rw [Nat.add_assoc]; exact hcell _ _ g0.2
        clear hcell g0
        obtain ⟨x, hx⟩ : ∃ x, x = xs[k] := ⟨_, rfl⟩
        obtain ⟨y, hy⟩ : ∃ y, y = ys[k] := ⟨_, rfl⟩
        rw [← hx] at k0 k1
        rw [← hy] at k2 k3
        have HX := Lib.hid hx
        have HY := Lib.hid hy
        clear hx hy
        cases q1 : (x.name.toList == y.name.toList)
        · have HQ := Lib.hid (show ¬ x = y by rintro rfl; simp at q1)
          have i1 : (k : Int) < (n : Int) := by omega
          go_wp2
          refine wp_region_ext (by kernel_rfl) (by kernel_rfl) ?_
          repeat (go_big_quiet_step ((fail)))
          refine wpQuiet_nil ?_
          intro _ hw'
          obtain ⟨y1, rfl⟩ := hw'
          go_wp2
          go_ret
          refine ⟨ret_bool ?_, (by repeat (first | exact Below.refl _ _ | apply bal | apply bext | apply bdr | apply bdrN | (refine bst ?_ _ (by simp only [ext_size, size_alloc, size_set]; omega))))⟩
          rw [HR.out]
          symm
          apply decide_eq_false
          rintro rfl
          exact HQ.out (HX.out.trans HY.out.symm)
        · cases q2 : (x.value.toList == y.value.toList)
          · have HQ := Lib.hid (show ¬ x = y by rintro rfl; simp at q2)
            have i1 : (k : Int) < (n : Int) := by omega
            go_wp2
            refine wp_region_ext (by kernel_rfl) (by kernel_rfl) ?_
            repeat (go_big_quiet_step ((fail)))
            refine wpQuiet_nil ?_
            intro _ hw'
            obtain ⟨y1, rfl⟩ := hw'
            go_wp2
            go_ret
            refine ⟨ret_bool ?_, (by repeat (first | exact Below.refl _ _ | apply bal | apply bext | apply bdr | apply bdrN | (refine bst ?_ _ (by simp only [ext_size, size_alloc, size_set]; omega))))⟩
            rw [HR.out]
            symm
            apply decide_eq_false
            rintro rfl
            exact HQ.out (HX.out.trans HY.out.symm)
          · have HQ := Lib.hid (lab_ext q1 q2)
            have i1 : (k : Int) < (n : Int) := by omega
            go_wp2
            refine wp_region_ext (by kernel_rfl) (by kernel_rfl) ?_
            repeat (go_big_quiet_step ((fail)))
            refine wpQuiet_nil ?_
            intro _ hw'
            obtain ⟨y1, rfl⟩ := hw'
            go_wp2
            refine ⟨⟨k + 1, by omega, by go_num, fun j h1 h2 hjk => ?_, (by repeat (first | exact Below.refl _ _ | apply bal | apply bext | apply bdr | apply bdrN | (refine bst ?_ _ (by simp only [ext_size, size_alloc, size_set]; omega))))⟩, by simp [intOf]; omega⟩
            rcases Nat.lt_succ_iff_lt_or_eq.1 hjk with h | rfl
            · exact HN.out j h1 h2 h
            · exact HX.out.symm.trans (HQ.out.trans HY.out)
      · go_wp2
        go_ret
        refine ⟨ret_bool ?_, (by repeat (first | exact Below.refl _ _ | apply bal | apply bext | apply bdr | apply bdrN | (refine bst ?_ _ (by simp only [ext_size, size_alloc, size_set]; omega))))⟩
        rw [HR.out]
        symm
        apply decide_eq_true
        exact List.ext_getElem (HXN.out.trans HYN.out.symm) fun j h1 h2 => HN.out j h1 h2 (by have := HXN.out; omega)
  · have hn : ((n : Int) != n2) = true := by simp; omega
    go_enter Try.func17, Try.ntmps17
    go_wp2
    go_ret
    refine ⟨ret_bool ?_, (by repeat (first | exact Below.refl _ _ | apply bal | apply bext | apply bdr | apply bdrN | (refine bst ?_ _ (by simp only [ext_size, size_alloc, size_set]; omega))))⟩
    rw [HR.out]
    symm
    apply decide_eq_false
    intro h
    exact hl (HXN.out.symm.trans ((congrArg _ h).trans HYN.out))
end Go.Proofs.Ytndgollcganhmaa
namespace Go.Proofs.Ytndgollcganhmaa
open Go.RowKit Go.Sort Go.Lib
attribute [local go_sem high] ext_size ext_cell ext_frozen alloc_cell alloc_frozen
instance : Inhabited Lab := ⟨⟨⟨#[]⟩, ⟨#[]⟩⟩⟩
end Go.Proofs.Ytndgollcganhmaa
namespace Go.Proofs.YtndgollcganhmaaQ.P
open Go.RowKit Go.Proofs.YtndgollcganhmaaW.PrintWords Go.Proofs.Ytndgollcganhmaa
def toMat (x : S35) : Mat := ⟨x.f0, x.f1, x.f2⟩
def ofMat (x : Mat) : S35 := ⟨x.kind, x.name, x.value⟩
theorem to_of_mat (x : Mat) : toMat (ofMat x) = x := rfl
theorem of_to_mat (x : S35) : ofMat (toMat x) = x := rfl
theorem mats_c {w : World} {A : Option Addr} {c : Nat} {xs : List S35} (h : Kd.C k35 w A xs.length xs) (hc : xs.length ≤ c) : SlAt w (.slice A xs.length c) 3 (xs.map toMat).length (matsC (xs.map toMat)) := by
  rw [List.length_map]
  exact slat_of_C (f := toMat) (en := matC) (fun h => k35_open h) (fun _ => rfl) (by decide) h hc
def matOkB (x : S35) : Bool := decide (x.f1.size ≤ maxLen) && decide (x.f2.size ≤ maxLen)
def matsOkB (xs : List S35) : Bool := xs.all matOkB
theorem mats_ok {xs : List S35} (h : matsOkB xs = true) : MatsOk (xs.map toMat) := by
  intro x hx
  obtain ⟨y, hy, rfl⟩ := List.mem_map.1 hx
  have := List.all_eq_true.1 h y hy
  simp only [matOkB, Bool.and_eq_true, decide_eq_true_eq] at this
  exact this
end Go.Proofs.YtndgollcganhmaaQ.P
namespace Go.Proofs.Ytndgollcganhmaa
open Go.RowKit
attribute [local go_sem high] ext_size ext_cell ext_frozen alloc_cell alloc_frozen
def timeB (t : Int) : Bool := decide (0 ≤ t) && decide (t ≤ 1099511627776)
theorem tick_any (t : Int) (w : World) : Calls Try.prog 84 #[.int .i64 t] w fun e w' => e = .returned (.bool (timeB t)) ∧ Below w.heap.size w w' := by
  by_cases h0 : 0 ≤ t <;> by_cases h1 : t ≤ 1099511627776
  all_goals
    go_enter Try.func84, Try.ntmps84
    go_wp2_with fail
    go_ret
    exact ⟨ret_bool (by simp [timeB, h0, h1]), (by repeat (first | exact Below.refl _ _ | apply bal | apply bext | apply bdr | apply bdrN | (refine bst ?_ _ (by simp only [ext_size, size_alloc, size_set]; omega))))⟩
theorem isHush1_any (x : Mat) (w : World) (h1 : x.name.size ≤ maxLen) (h2 : x.value.size ≤ maxLen) :
    Calls Try.prog 108 #[matV x] w fun e w' => e = .returned (.bool (!matB x)) ∧ Below w.heap.size w w' := by
  have H := Lib.hid fun W => matcher_any x W h1 h2
  obtain ⟨k, n, v⟩ := x
  obtain ⟨b, hb⟩ : ∃ b, b = matB ⟨k, n, v⟩ := ⟨_, rfl⟩
  rw [← hb] at H ⊢
  unfold matV at *
  clear hb
  go_enter Try.func108, Try.ntmps108
  go_wp2_with fail
  refine (H.out _).mono ?_
  rintro e w' ⟨rfl, hb⟩
  obtain ⟨y1, rfl⟩ := ext_of hb
  clear hb
  go_wp2_with fail
  go_ret
  exact ⟨rfl, (by repeat (first | exact Below.refl _ _ | apply bal | apply bext | apply bdr | apply bdrN | (refine bst ?_ _ (by simp only [ext_size, size_alloc, size_set]; omega))))⟩
def hushB (f t : Int) (ms : List Mat) : Bool := timeB f && timeB t && decide (f < t) && decide (1 ≤ ms.length) && decide (ms.length ≤ 4) && !ms.any (fun m => !matB m)
theorem isHush_any (f t : Int) (v : Value) (ms : List Mat) (w : World) (hS : SlAt w v 3 ms.length (matsC ms)) (hm : MatsOk ms) :
    Calls Try.prog 85 #[.agg #[.int .i64 f, .int .i64 t, v]] w fun e w' => e = .returned (.bool (hushB f t ms)) ∧ Below w.heap.size w w' := by
  obtain ⟨a, c, rfl, hnc, hcm⟩ := hS.form
  have hen : Enters Try.prog 108 := enters_of Try.func108 (by kernel_rfl) rfl
  have H := Lib.hid fun W (h : SlAt W (Value.slice a ms.length c) 3 ms.length (matsC ms)) => containsFuncM _ ms 108 #[] (fun m => !matB m) W h (fun x hx W' _ => isHush1_any x W' (hm x hx).1 (hm x hx).2) hen
  have H1 := Lib.hid fun W => tick_any f W
  have H2 := Lib.hid fun W => tick_any t W
  have HS := Lib.hid hS
  unfold hushB
  obtain ⟨q, hq⟩ : ∃ q, q = ms.any (fun m => !matB m) := ⟨_, rfl⟩
  obtain ⟨b1, hb1⟩ : ∃ b, b = timeB f := ⟨_, rfl⟩
  obtain ⟨b2, hb2⟩ : ∃ b, b = timeB t := ⟨_, rfl⟩
  rw [← hq] at H ⊢
  rw [← hb1] at H1 ⊢
  rw [← hb2] at H2 ⊢
  have hm1 := hcm
  unfold maxLen at hm1
  clear hq hb1 hb2 hS hm hen hcm
  cases b1
  case false =>
    go_enter Try.func85, Try.ntmps85
    go_wp2_with fail
    refine (H1.out _).mono ?_
    rintro e w' ⟨rfl, hb⟩
    obtain ⟨y1, rfl⟩ := ext_of hb
    clear hb
    go_wp2_with fail
    go_ret
    exact ⟨rfl, (by repeat (first | exact Below.refl _ _ | apply bal | apply bext | apply bdr | apply bdrN | (refine bst ?_ _ (by simp only [ext_size, size_alloc, size_set]; omega))))⟩
  case true =>
  cases b2
  case false =>
    go_enter Try.func85, Try.ntmps85
    go_wp2_with fail
    refine (H1.out _).mono ?_
    rintro e w' ⟨rfl, hb⟩
    obtain ⟨y1, rfl⟩ := ext_of hb
    clear hb
    go_wp2_with fail
    refine (H2.out _).mono ?_
    rintro e w' ⟨rfl, hb⟩
    obtain ⟨y2, rfl⟩ := ext_of hb
    clear hb
    go_wp2_with fail
    go_ret
    exact ⟨rfl, (by repeat (first | exact Below.refl _ _ | apply bal | apply bext | apply bdr | apply bdrN | (refine bst ?_ _ (by simp only [ext_size, size_alloc, size_set]; omega))))⟩
  case true =>
  by_cases h1 : f < t
  case neg =>
    have h1' : t ≤ f := by omega
    go_enter Try.func85, Try.ntmps85
    go_wp2_with fail
    refine (H1.out _).mono ?_
    rintro e w' ⟨rfl, hb⟩
    obtain ⟨y1, rfl⟩ := ext_of hb
    clear hb
    go_wp2_with fail
    refine (H2.out _).mono ?_
    rintro e w' ⟨rfl, hb⟩
    obtain ⟨y2, rfl⟩ := ext_of hb
    clear hb
    go_wp2_with fail
    go_ret
    exact ⟨ret_bool (by first | rfl | rw [decide_eq_false (show ¬ f < t by omega)]; simp), (by repeat (first | exact Below.refl _ _ | apply bal | apply bext | apply bdr | apply bdrN | (refine bst ?_ _ (by simp only [ext_size, size_alloc, size_set]; omega))))⟩
  case pos =>
  have h1' : ¬ t ≤ f := by omega
  by_cases h2 : 1 ≤ ms.length
  case neg =>
    have h2' : ms.length < 1 := by omega
    go_enter Try.func85, Try.ntmps85
    go_wp2_with fail
    refine (H1.out _).mono ?_
    rintro e w' ⟨rfl, hb⟩
    obtain ⟨y1, rfl⟩ := ext_of hb
    clear hb
    go_wp2_with fail
    refine (H2.out _).mono ?_
    rintro e w' ⟨rfl, hb⟩
    obtain ⟨y2, rfl⟩ := ext_of hb
    clear hb
    go_wp2_with fail
    go_ret
    exact ⟨ret_bool (by first | rfl | rw [decide_eq_false (show ¬ 1 ≤ ms.length by omega)]; simp), (by repeat (first | exact Below.refl _ _ | apply bal | apply bext | apply bdr | apply bdrN | (refine bst ?_ _ (by simp only [ext_size, size_alloc, size_set]; omega))))⟩
  case pos =>
  have h2' : ¬ ms.length < 1 := by omega
  by_cases h3 : ms.length ≤ 4
  case neg =>
    have h3' : 4 < ms.length := by omega
    go_enter Try.func85, Try.ntmps85
    go_wp2_with fail
    refine (H1.out _).mono ?_
    rintro e w' ⟨rfl, hb⟩
    obtain ⟨y1, rfl⟩ := ext_of hb
    clear hb
    go_wp2_with fail
    refine (H2.out _).mono ?_
    rintro e w' ⟨rfl, hb⟩
    obtain ⟨y2, rfl⟩ := ext_of hb
    clear hb
    go_wp2_with fail
    go_ret
    exact ⟨ret_bool (by first | rfl | rw [decide_eq_false (show ¬ ms.length ≤ 4 by omega)]; simp), (by repeat (first | exact Below.refl _ _ | apply bal | apply bext | apply bdr | apply bdrN | (refine bst ?_ _ (by simp only [ext_size, size_alloc, size_set]; omega))))⟩
  case pos =>
    have h3' : ¬ 4 < ms.length := by omega
    go_enter Try.func85, Try.ntmps85
    go_wp2_with fail
    refine (H1.out _).mono ?_
    rintro e w' ⟨rfl, hb⟩
    obtain ⟨y1, rfl⟩ := ext_of hb
    clear hb
    go_wp2_with fail
    refine (H2.out _).mono ?_
    rintro e w' ⟨rfl, hb⟩
    obtain ⟨y2, rfl⟩ := ext_of hb
    clear hb
    go_wp2_with fail
    refine (H.out _ (HS.out.stay (by repeat (first | exact Below.refl _ _ | apply bal | apply bext | apply bdr | apply bdrN | (refine bst ?_ _ (by simp only [ext_size, size_alloc, size_set]; omega)))))).mono ?_
    rintro e w' ⟨rfl, hb⟩
    obtain ⟨y3, rfl⟩ := ext_of hb
    clear hb
    cases q
    all_goals
      go_wp2_with fail
      go_ret
      exact ⟨ret_bool (by first | rfl | (simp only [decide_eq_true h1, decide_eq_true h2, decide_eq_true h3]; rfl) | simp_all), (by repeat (first | exact Below.refl _ _ | apply bal | apply bext | apply bdr | apply bdrN | (refine bst ?_ _ (by simp only [ext_size, size_alloc, size_set]; omega))))⟩
end Go.Proofs.Ytndgollcganhmaa
namespace Go.Proofs.YtndgollcganhmaaQ.P
open Go.RowKit Go.Proofs.YtndgollcganhmaaW.PrintWords Go.Proofs.Ytndgollcganhmaa
def wire_isHush.f (a0_0 : Int) (a0_1 : Int) (l0_2 : List (S35)) : Option (Bool) := if matsOkB l0_2 = true then some (hushB a0_0 a0_1 (l0_2.map toMat)) else none
theorem wire_isHush.calls (a0_0 : Int) (a0_1 : Int) (A0_2 : Option Addr) (c0_2 : Nat) (l0_2 : List (S35)) (r : Bool) (w : World) (hr0_2 : Kd.C k35 w A0_2 l0_2.length l0_2) (hc0_2 : l0_2.length ≤ c0_2) (h : wire_isHush.f a0_0 a0_1 l0_2 = some r) :
    Calls Try.prog 85 #[.agg #[.int .i64 a0_0, .int .i64 a0_1, .slice A0_2 l0_2.length c0_2]] w fun e w' => e = .returned (.bool r) ∧ Below w.heap.size w w' := by
  obtain ⟨h1, rfl⟩ := if_some h
  exact isHush_any _ _ _ _ w (mats_c hr0_2 hc0_2) (mats_ok h1)
end Go.Proofs.YtndgollcganhmaaQ.P
namespace Go.Proofs.YtndgollcganhmaaQ.P
open Go.RowKit Go.Proofs.YtndgollcganhmaaW.PrintWords Go.Proofs.YtndgollcganhmaaW.PrintLast Go.Proofs.YtndgollcganhmaaW.PrintMore
attribute [local go_sem] max2_int min2_int max_two min_two max_three min_three max_four min_four
def wire_Right.f (a0_0 : Int) (l0_1 : List (S41)) (a0_2 : Int) (a0_3 : Int) (l0_4 : List (S35)) : Option (Bool) := if a0_0 = 2 then (if (l0_1.length : Int) = 0 then ((wire_isHush.f a0_2 a0_3 l0_4).bind fun t229 => (some t229)) else (some false)) else (if a0_2 = 0 then (if a0_3 = 0 then (if a0_0 = 0 then ((label_Right.f l0_1).bind fun t230 => (if t230 = true then (some ((l0_4.length : Int) == 0)) else (some false))) else (if a0_0 = 1 then ((label_Right.f l0_1).bind fun t231 => (if t231 = true then (some ((l0_4.length : Int) == 0)) else (some false))) else (some false))) else (if a0_0 = 0 then ((label_Right.f l0_1).bind fun t232 => (if t232 = true then (some false) else (some false))) else (if a0_0 = 1 then ((label_Right.f l0_1).bind fun t233 => (if t233 = true then (some false) else (some false))) else (some false)))) else (if a0_0 = 0 then ((label_Right.f l0_1).bind fun t234 => (if t234 = true then (some false) else (some false))) else (if a0_0 = 1 then ((label_Right.f l0_1).bind fun t235 => (if t235 = true then (some false) else (some false))) else (some false))))
set_option maxHeartbeats 8000000 in
set_option maxRecDepth 100000 in
theorem wire_Right.calls (a0_0 : Int) (A0_1 : Option Addr) (c0_1 : Nat) (l0_1 : List (S41)) (a0_2 : Int) (a0_3 : Int) (A0_4 : Option Addr) (c0_4 : Nat) (l0_4 : List (S35)) (r : Bool) (w : World) (hr0_1 : Kd.C k41 w A0_1 l0_1.length l0_1) (hc0_1 : l0_1.length ≤ c0_1) (hr0_4 : Kd.C k35 w A0_4 l0_4.length l0_4) (hc0_4 : l0_4.length ≤ c0_4) (h : wire_Right.f a0_0 l0_1 a0_2 a0_3 l0_4 = some r) :
  Calls Try.prog 52 #[.agg #[.int .i64 a0_0, .slice A0_1 l0_1.length c0_1, .int .i64 a0_2, .int .i64 a0_3, .slice A0_4 l0_4.length c0_4]] w fun e w' => e = .returned (.bool r) ∧ Below w.heap.size w w' := by
 have hu71 := Try.underlying71
 have hu48 := Try.underlying48
 have HR0_1 := aA hr0_1
 have HC0_1 := aA hc0_1
 clear hr0_1 hc0_1
 have HR0_4 := aA hr0_4
 have HC0_4 := aA hc0_4
 clear hr0_4 hc0_4
 have HB := aA (Below.refl w.heap.size w)
 have H : (if a0_0 = 2 then (if (l0_1.length : Int) = 0 then ((wire_isHush.f a0_2 a0_3 l0_4).bind fun t229 => (some t229)) else (some false)) else (if a0_2 = 0 then (if a0_3 = 0 then (if a0_0 = 0 then ((label_Right.f l0_1).bind fun t230 => (if t230 = true then (some ((l0_4.length : Int) == 0)) else (some false))) else (if a0_0 = 1 then ((label_Right.f l0_1).bind fun t231 => (if t231 = true then (some ((l0_4.length : Int) == 0)) else (some false))) else (some false))) else (if a0_0 = 0 then ((label_Right.f l0_1).bind fun t232 => (if t232 = true then (some false) else (some false))) else (if a0_0 = 1 then ((label_Right.f l0_1).bind fun t233 => (if t233 = true then (some false) else (some false))) else (some false)))) else (if a0_0 = 0 then ((label_Right.f l0_1).bind fun t234 => (if t234 = true then (some false) else (some false))) else (if a0_0 = 1 then ((label_Right.f l0_1).bind fun t235 => (if t235 = true then (some false) else (some false))) else (some false))))) = some r := h
 clear h
 by_cases c2 : a0_0 = 2
 ·rw [if_pos c2] at H
  have c2b0 : (a0_0 == 2) = true := beq_iff_eq.mpr c2
  have c2b1 : (a0_0 != 2) = false := bne_eq_false_iff_eq.mpr c2
  clear c2
  by_cases c3 : (l0_1.length : Int) = 0
  ·rw [if_pos c3] at H
   have c3b0 : ((l0_1.length : Int) == 0) = true := beq_iff_eq.mpr c3
   have c3b1 : ((l0_1.length : Int) != 0) = false := bne_eq_false_iff_eq.mpr c3
   clear c3
   replace H := Option.bind_eq_some_iff.mp H
   obtain ⟨t229, A40, H⟩ := H
   have A4 := aA A40
   clear A40
   obtain rfl := Option.some.inj H
   go_enter Try.func52, Try.ntmps52
   go_wp2_with (first | ((with_reducible refine gate_dst (N := 1) rfl ?_); (try (refine gate_guard (by rfl) ?_; dsimp only)); refine box_event ?hg (N := 1) ?hd (cs := #[.int .i64 a0_0, .slice A0_1 l0_1.length c0_1, .int .i64 a0_2, .int .i64 a0_3, .slice A0_4 l0_4.length c0_4]) (t := 71) ?hr ?_; (case hd => rfl); (case hg => rfl); (case hr => first | (go_simp; done) | (go_simp; rfl)); intro gb228 hg w5 hbox hb; have n0_ := aA (below_step mB hb); have n1_ := aA (hbox); have n2_ := aA ((bZ hg mB)); have n3_ := aA ((bZ hg mB)); clear HB; have HB := n0_; have BK228 := n1_; have GW228 := n2_; have GE228 := n3_; clear n0_ n1_ n2_ n3_ hb hbox hg; obtain ⟨hcz6_0, hcz6_1, hcz6_2, hcz6_3, hcz6_4⟩ := bC5 BK228.out; obtain ⟨hfz6_0, hfz6_1, hfz6_2, hfz6_3, hfz6_4⟩ := bF5 BK228.out) | (go_at_call 85; (with_reducible refine (wire_isHush.calls a0_2 a0_3 _ _ l0_4 t229 _ ?side1 ?side2 A4.out).mono ?_); (case side1 => exact mC ((Kd.C_below HR0_4.out HB.out))); (case side2 => exact HC0_4.out); rintro e w7 ⟨rfl, hb⟩; have n0_ := aA (bB BK228.out hb); have n1_ := aA (below_step (mD1 GE228.out) hb); clear BK228 HB; have BK228 := n0_; have HB := n1_; clear n0_ n1_; (try clear hb); (try clear hb2); (try clear hk); (try clear hi)))
   go_ret
   exact ⟨by first | rfl | (simp [errW_none, errW_some] <;> rfl) | (simp [*, errW_none, errW_some] <;> rfl), by repeat (first | (with_reducible first | exact HB.out | apply below_alloc | apply pw_below_drewN | apply below_drew1 | refine below_set ?_ GE228.out) | exact HB.out)⟩
  ·rw [if_neg c3] at H
   have c3b0 : ((l0_1.length : Int) == 0) = false := beq_eq_false_iff_ne.mpr c3
   have c3b1 : ((l0_1.length : Int) != 0) = true := bne_iff_ne.mpr c3
   have c3b2 : ¬ (l0_1 = []) := fun h_ => c3 (by rw [h_]; rfl)
   obtain rfl := Option.some.inj H
   go_enter Try.func52, Try.ntmps52
   go_wp2_with (first | ((with_reducible refine gate_dst (N := 1) rfl ?_); (try (refine gate_guard (by rfl) ?_; dsimp only)); refine box_event ?hg (N := 1) ?hd (cs := #[.int .i64 a0_0, .slice A0_1 l0_1.length c0_1, .int .i64 a0_2, .int .i64 a0_3, .slice A0_4 l0_4.length c0_4]) (t := 71) ?hr ?_; (case hd => rfl); (case hg => rfl); (case hr => first | (go_simp; done) | (go_simp; rfl)); intro gb228 hg w8 hbox hb; have n0_ := aA (below_step mB hb); have n1_ := aA (hbox); have n2_ := aA ((bZ hg mB)); have n3_ := aA ((bZ hg mB)); clear HB; have HB := n0_; have BK228 := n1_; have GW228 := n2_; have GE228 := n3_; clear n0_ n1_ n2_ n3_ hb hbox hg; obtain ⟨hcz9_0, hcz9_1, hcz9_2, hcz9_3, hcz9_4⟩ := bC5 BK228.out; obtain ⟨hfz9_0, hfz9_1, hfz9_2, hfz9_3, hfz9_4⟩ := bF5 BK228.out))
   go_ret
   exact ⟨by first | rfl | (simp [errW_none, errW_some] <;> rfl) | (simp [*, errW_none, errW_some] <;> rfl), by repeat (first | (with_reducible first | exact HB.out | apply below_alloc | apply pw_below_drewN | apply below_drew1 | refine below_set ?_ GE228.out) | exact HB.out)⟩
 ·rw [if_neg c2] at H
  have c2b0 : (a0_0 == 2) = false := beq_eq_false_iff_ne.mpr c2
  have c2b1 : (a0_0 != 2) = true := bne_iff_ne.mpr c2
  by_cases c10 : a0_2 = 0
  ·rw [if_pos c10] at H
   have c10b0 : (a0_2 == 0) = true := beq_iff_eq.mpr c10
   have c10b1 : (a0_2 != 0) = false := bne_eq_false_iff_eq.mpr c10
   clear c10
   by_cases c11 : a0_3 = 0
   ·rw [if_pos c11] at H
    have c11b0 : (a0_3 == 0) = true := beq_iff_eq.mpr c11
    have c11b1 : (a0_3 != 0) = false := bne_eq_false_iff_eq.mpr c11
    clear c11
    by_cases c12 : a0_0 = 0
    ·rw [if_pos c12] at H
     have c12b0 : (a0_0 == 0) = true := beq_iff_eq.mpr c12
     have c12b1 : (a0_0 != 0) = false := bne_eq_false_iff_eq.mpr c12
     clear c12
     replace H := Option.bind_eq_some_iff.mp H
     obtain ⟨t230, A130, H⟩ := H
     have A13 := aA A130
     clear A130
     by_cases c14 : t230 = true
     ·subst c14
      have H1 : (some ((l0_4.length : Int) == 0)) = some r := by rw [if_pos rfl] at H; exact H
      clear H
      have H := H1
      clear H1
      obtain rfl := Option.some.inj H
      go_enter Try.func52, Try.ntmps52
      go_wp2_with (first | ((with_reducible refine gate_dst (N := 1) rfl ?_); (try (refine gate_guard (by rfl) ?_; dsimp only)); refine box_event ?hg (N := 1) ?hd (cs := #[.int .i64 a0_0, .slice A0_1 l0_1.length c0_1, .int .i64 a0_2, .int .i64 a0_3, .slice A0_4 l0_4.length c0_4]) (t := 71) ?hr ?_; (case hd => rfl); (case hg => rfl); (case hr => first | (go_simp; done) | (go_simp; rfl)); intro gb228 hg w15 hbox hb; have n0_ := aA (below_step mB hb); have n1_ := aA (hbox); have n2_ := aA ((bZ hg mB)); have n3_ := aA ((bZ hg mB)); clear HB; have HB := n0_; have BK228 := n1_; have GW228 := n2_; have GE228 := n3_; clear n0_ n1_ n2_ n3_ hb hbox hg; obtain ⟨hcz16_0, hcz16_1, hcz16_2, hcz16_3, hcz16_4⟩ := bC5 BK228.out; obtain ⟨hfz16_0, hfz16_1, hfz16_2, hfz16_3, hfz16_4⟩ := bF5 BK228.out) | (go_at_call 15; (with_reducible refine (label_Right.calls _ _ l0_1 true _ ?side1 ?side2 A13.out).mono ?_); (case side1 => exact mC ((Kd.C_below HR0_1.out HB.out))); (case side2 => exact HC0_1.out); rintro e w17 ⟨rfl, hb⟩; have n0_ := aA (bB BK228.out hb); have n1_ := aA (below_step (mD1 GE228.out) hb); clear BK228 HB; have BK228 := n0_; have HB := n1_; clear n0_ n1_; (try clear hb); (try clear hb2); (try clear hk); (try clear hi)))
      go_ret
      exact ⟨by first | rfl | (simp [errW_none, errW_some] <;> rfl) | (simp [*, errW_none, errW_some] <;> rfl), by repeat (first | (with_reducible first | exact HB.out | apply below_alloc | apply pw_below_drewN | apply below_drew1 | refine below_set ?_ GE228.out) | exact HB.out)⟩
     ·replace c14 := Bool.eq_false_iff.mpr c14
      subst c14
      have H1 : (some false) = some r := by rw [if_neg (show ¬ (false = true) by decide)] at H; exact H
      clear H
      have H := H1
      clear H1
      obtain rfl := Option.some.inj H
      go_enter Try.func52, Try.ntmps52
      go_wp2_with (first | ((with_reducible refine gate_dst (N := 1) rfl ?_); (try (refine gate_guard (by rfl) ?_; dsimp only)); refine box_event ?hg (N := 1) ?hd (cs := #[.int .i64 a0_0, .slice A0_1 l0_1.length c0_1, .int .i64 a0_2, .int .i64 a0_3, .slice A0_4 l0_4.length c0_4]) (t := 71) ?hr ?_; (case hd => rfl); (case hg => rfl); (case hr => first | (go_simp; done) | (go_simp; rfl)); intro gb228 hg w18 hbox hb; have n0_ := aA (below_step mB hb); have n1_ := aA (hbox); have n2_ := aA ((bZ hg mB)); have n3_ := aA ((bZ hg mB)); clear HB; have HB := n0_; have BK228 := n1_; have GW228 := n2_; have GE228 := n3_; clear n0_ n1_ n2_ n3_ hb hbox hg; obtain ⟨hcz19_0, hcz19_1, hcz19_2, hcz19_3, hcz19_4⟩ := bC5 BK228.out; obtain ⟨hfz19_0, hfz19_1, hfz19_2, hfz19_3, hfz19_4⟩ := bF5 BK228.out) | (go_at_call 15; (with_reducible refine (label_Right.calls _ _ l0_1 false _ ?side1 ?side2 A13.out).mono ?_); (case side1 => exact mC ((Kd.C_below HR0_1.out HB.out))); (case side2 => exact HC0_1.out); rintro e w20 ⟨rfl, hb⟩; have n0_ := aA (bB BK228.out hb); have n1_ := aA (below_step (mD1 GE228.out) hb); clear BK228 HB; have BK228 := n0_; have HB := n1_; clear n0_ n1_; (try clear hb); (try clear hb2); (try clear hk); (try clear hi)))
      go_ret
      exact ⟨by first | rfl | (simp [errW_none, errW_some] <;> rfl) | (simp [*, errW_none, errW_some] <;> rfl), by repeat (first | (with_reducible first | exact HB.out | apply below_alloc | apply pw_below_drewN | apply below_drew1 | refine below_set ?_ GE228.out) | exact HB.out)⟩
    ·rw [if_neg c12] at H
     have c12b0 : (a0_0 == 0) = false := beq_eq_false_iff_ne.mpr c12
     have c12b1 : (a0_0 != 0) = true := bne_iff_ne.mpr c12
     by_cases c21 : a0_0 = 1
     ·rw [if_pos c21] at H
      have c21b0 : (a0_0 == 1) = true := beq_iff_eq.mpr c21
      have c21b1 : (a0_0 != 1) = false := bne_eq_false_iff_eq.mpr c21
      clear c21
      replace H := Option.bind_eq_some_iff.mp H
      obtain ⟨t231, A220, H⟩ := H
      have A22 := aA A220
      clear A220
      by_cases c23 : t231 = true
      ·subst c23
       have H1 : (some ((l0_4.length : Int) == 0)) = some r := by rw [if_pos rfl] at H; exact H
       clear H
       have H := H1
       clear H1
       obtain rfl := Option.some.inj H
       go_enter Try.func52, Try.ntmps52
       go_wp2_with (first | ((with_reducible refine gate_dst (N := 1) rfl ?_); (try (refine gate_guard (by rfl) ?_; dsimp only)); refine box_event ?hg (N := 1) ?hd (cs := #[.int .i64 a0_0, .slice A0_1 l0_1.length c0_1, .int .i64 a0_2, .int .i64 a0_3, .slice A0_4 l0_4.length c0_4]) (t := 71) ?hr ?_; (case hd => rfl); (case hg => rfl); (case hr => first | (go_simp; done) | (go_simp; rfl)); intro gb228 hg w24 hbox hb; have n0_ := aA (below_step mB hb); have n1_ := aA (hbox); have n2_ := aA ((bZ hg mB)); have n3_ := aA ((bZ hg mB)); clear HB; have HB := n0_; have BK228 := n1_; have GW228 := n2_; have GE228 := n3_; clear n0_ n1_ n2_ n3_ hb hbox hg; obtain ⟨hcz25_0, hcz25_1, hcz25_2, hcz25_3, hcz25_4⟩ := bC5 BK228.out; obtain ⟨hfz25_0, hfz25_1, hfz25_2, hfz25_3, hfz25_4⟩ := bF5 BK228.out) | (go_at_call 15; (with_reducible refine (label_Right.calls _ _ l0_1 true _ ?side1 ?side2 A22.out).mono ?_); (case side1 => exact mC ((Kd.C_below HR0_1.out HB.out))); (case side2 => exact HC0_1.out); rintro e w26 ⟨rfl, hb⟩; have n0_ := aA (bB BK228.out hb); have n1_ := aA (below_step (mD1 GE228.out) hb); clear BK228 HB; have BK228 := n0_; have HB := n1_; clear n0_ n1_; (try clear hb); (try clear hb2); (try clear hk); (try clear hi)))
       go_ret
       exact ⟨by first | rfl | (simp [errW_none, errW_some] <;> rfl) | (simp [*, errW_none, errW_some] <;> rfl), by repeat (first | (with_reducible first | exact HB.out | apply below_alloc | apply pw_below_drewN | apply below_drew1 | refine below_set ?_ GE228.out) | exact HB.out)⟩
      ·replace c23 := Bool.eq_false_iff.mpr c23
       subst c23
       have H1 : (some false) = some r := by rw [if_neg (show ¬ (false = true) by decide)] at H; exact H
       clear H
       have H := H1
       clear H1
       obtain rfl := Option.some.inj H
       go_enter Try.func52, Try.ntmps52
       go_wp2_with (first | ((with_reducible refine gate_dst (N := 1) rfl ?_); (try (refine gate_guard (by rfl) ?_; dsimp only)); refine box_event ?hg (N := 1) ?hd (cs := #[.int .i64 a0_0, .slice A0_1 l0_1.length c0_1, .int .i64 a0_2, .int .i64 a0_3, .slice A0_4 l0_4.length c0_4]) (t := 71) ?hr ?_; (case hd => rfl); (case hg => rfl); (case hr => first | (go_simp; done) | (go_simp; rfl)); intro gb228 hg w27 hbox hb; have n0_ := aA (below_step mB hb); have n1_ := aA (hbox); have n2_ := aA ((bZ hg mB)); have n3_ := aA ((bZ hg mB)); clear HB; have HB := n0_; have BK228 := n1_; have GW228 := n2_; have GE228 := n3_; clear n0_ n1_ n2_ n3_ hb hbox hg; obtain ⟨hcz28_0, hcz28_1, hcz28_2, hcz28_3, hcz28_4⟩ := bC5 BK228.out; obtain ⟨hfz28_0, hfz28_1, hfz28_2, hfz28_3, hfz28_4⟩ := bF5 BK228.out) | (go_at_call 15; (with_reducible refine (label_Right.calls _ _ l0_1 false _ ?side1 ?side2 A22.out).mono ?_); (case side1 => exact mC ((Kd.C_below HR0_1.out HB.out))); (case side2 => exact HC0_1.out); rintro e w29 ⟨rfl, hb⟩; have n0_ := aA (bB BK228.out hb); have n1_ := aA (below_step (mD1 GE228.out) hb); clear BK228 HB; have BK228 := n0_; have HB := n1_; clear n0_ n1_; (try clear hb); (try clear hb2); (try clear hk); (try clear hi)))
       go_ret
       exact ⟨by first | rfl | (simp [errW_none, errW_some] <;> rfl) | (simp [*, errW_none, errW_some] <;> rfl), by repeat (first | (with_reducible first | exact HB.out | apply below_alloc | apply pw_below_drewN | apply below_drew1 | refine below_set ?_ GE228.out) | exact HB.out)⟩
     ·rw [if_neg c21] at H
      have c21b0 : (a0_0 == 1) = false := beq_eq_false_iff_ne.mpr c21
      have c21b1 : (a0_0 != 1) = true := bne_iff_ne.mpr c21
      obtain rfl := Option.some.inj H
      go_enter Try.func52, Try.ntmps52
      go_wp2_with (first | ((with_reducible refine gate_dst (N := 1) rfl ?_); (try (refine gate_guard (by rfl) ?_; dsimp only)); refine box_event ?hg (N := 1) ?hd (cs := #[.int .i64 a0_0, .slice A0_1 l0_1.length c0_1, .int .i64 a0_2, .int .i64 a0_3, .slice A0_4 l0_4.length c0_4]) (t := 71) ?hr ?_; (case hd => rfl); (case hg => rfl); (case hr => first | (go_simp; done) | (go_simp; rfl)); intro gb228 hg w30 hbox hb; have n0_ := aA (below_step mB hb); have n1_ := aA (hbox); have n2_ := aA ((bZ hg mB)); have n3_ := aA ((bZ hg mB)); clear HB; have HB := n0_; have BK228 := n1_; have GW228 := n2_; have GE228 := n3_; clear n0_ n1_ n2_ n3_ hb hbox hg; obtain ⟨hcz31_0, hcz31_1, hcz31_2, hcz31_3, hcz31_4⟩ := bC5 BK228.out; obtain ⟨hfz31_0, hfz31_1, hfz31_2, hfz31_3, hfz31_4⟩ := bF5 BK228.out))
      go_ret
      exact ⟨by first | rfl | (simp [errW_none, errW_some] <;> rfl) | (simp [*, errW_none, errW_some] <;> rfl), by repeat (first | (with_reducible first | exact HB.out | apply below_alloc | apply pw_below_drewN | apply below_drew1 | refine below_set ?_ GE228.out) | exact HB.out)⟩
   ·rw [if_neg c11] at H
    have c11b0 : (a0_3 == 0) = false := beq_eq_false_iff_ne.mpr c11
    have c11b1 : (a0_3 != 0) = true := bne_iff_ne.mpr c11
    by_cases c32 : a0_0 = 0
    ·rw [if_pos c32] at H
     have c32b0 : (a0_0 == 0) = true := beq_iff_eq.mpr c32
     have c32b1 : (a0_0 != 0) = false := bne_eq_false_iff_eq.mpr c32
     clear c32
     replace H := Option.bind_eq_some_iff.mp H
     obtain ⟨t232, A330, H⟩ := H
     have A33 := aA A330
     clear A330
     by_cases c34 : t232 = true
     ·subst c34
      have H1 : (some false) = some r := by rw [if_pos rfl] at H; exact H
      clear H
      have H := H1
      clear H1
      obtain rfl := Option.some.inj H
      go_enter Try.func52, Try.ntmps52
      go_wp2_with (first | ((with_reducible refine gate_dst (N := 1) rfl ?_); (try (refine gate_guard (by rfl) ?_; dsimp only)); refine box_event ?hg (N := 1) ?hd (cs := #[.int .i64 a0_0, .slice A0_1 l0_1.length c0_1, .int .i64 a0_2, .int .i64 a0_3, .slice A0_4 l0_4.length c0_4]) (t := 71) ?hr ?_; (case hd => rfl); (case hg => rfl); (case hr => first | (go_simp; done) | (go_simp; rfl)); intro gb228 hg w35 hbox hb; have n0_ := aA (below_step mB hb); have n1_ := aA (hbox); have n2_ := aA ((bZ hg mB)); have n3_ := aA ((bZ hg mB)); clear HB; have HB := n0_; have BK228 := n1_; have GW228 := n2_; have GE228 := n3_; clear n0_ n1_ n2_ n3_ hb hbox hg; obtain ⟨hcz36_0, hcz36_1, hcz36_2, hcz36_3, hcz36_4⟩ := bC5 BK228.out; obtain ⟨hfz36_0, hfz36_1, hfz36_2, hfz36_3, hfz36_4⟩ := bF5 BK228.out) | (go_at_call 15; (with_reducible refine (label_Right.calls _ _ l0_1 true _ ?side1 ?side2 A33.out).mono ?_); (case side1 => exact mC ((Kd.C_below HR0_1.out HB.out))); (case side2 => exact HC0_1.out); rintro e w37 ⟨rfl, hb⟩; have n0_ := aA (bB BK228.out hb); have n1_ := aA (below_step (mD1 GE228.out) hb); clear BK228 HB; have BK228 := n0_; have HB := n1_; clear n0_ n1_; (try clear hb); (try clear hb2); (try clear hk); (try clear hi)))
      go_ret
      exact ⟨by first | rfl | (simp [errW_none, errW_some] <;> rfl) | (simp [*, errW_none, errW_some] <;> rfl), by repeat (first | (with_reducible first | exact HB.out | apply below_alloc | apply pw_below_drewN | apply below_drew1 | refine below_set ?_ GE228.out) | exact HB.out)⟩
     ·replace c34 := Bool.eq_false_iff.mpr c34
      subst c34
      have H1 : (some false) = some r := by rw [if_neg (show ¬ (false = true) by decide)] at H; exact H
      clear H
      have H := H1
      clear H1
      obtain rfl := Option.some.inj H
      go_enter Try.func52, Try.ntmps52
      go_wp2_with (first | ((with_reducible refine gate_dst (N := 1) rfl ?_); (try (refine gate_guard (by rfl) ?_; dsimp only)); refine box_event ?hg (N := 1) ?hd (cs := #[.int .i64 a0_0, .slice A0_1 l0_1.length c0_1, .int .i64 a0_2, .int .i64 a0_3, .slice A0_4 l0_4.length c0_4]) (t := 71) ?hr ?_; (case hd => rfl); (case hg => rfl); (case hr => first | (go_simp; done) | (go_simp; rfl)); intro gb228 hg w38 hbox hb; have n0_ := aA (below_step mB hb); have n1_ := aA (hbox); have n2_ := aA ((bZ hg mB)); have n3_ := aA ((bZ hg mB)); clear HB; have HB := n0_; have BK228 := n1_; have GW228 := n2_; have GE228 := n3_; clear n0_ n1_ n2_ n3_ hb hbox hg; obtain ⟨hcz39_0, hcz39_1, hcz39_2, hcz39_3, hcz39_4⟩ := bC5 BK228.out; obtain ⟨hfz39_0, hfz39_1, hfz39_2, hfz39_3, hfz39_4⟩ := bF5 BK228.out) | (go_at_call 15; (with_reducible refine (label_Right.calls _ _ l0_1 false _ ?side1 ?side2 A33.out).mono ?_); (case side1 => exact mC ((Kd.C_below HR0_1.out HB.out))); (case side2 => exact HC0_1.out); rintro e w40 ⟨rfl, hb⟩; have n0_ := aA (bB BK228.out hb); have n1_ := aA (below_step (mD1 GE228.out) hb); clear BK228 HB; have BK228 := n0_; have HB := n1_; clear n0_ n1_; (try clear hb); (try clear hb2); (try clear hk); (try clear hi)))
      go_ret
      exact ⟨by first | rfl | (simp [errW_none, errW_some] <;> rfl) | (simp [*, errW_none, errW_some] <;> rfl), by repeat (first | (with_reducible first | exact HB.out | apply below_alloc | apply pw_below_drewN | apply below_drew1 | refine below_set ?_ GE228.out) | exact HB.out)⟩
    ·rw [if_neg c32] at H
     have c32b0 : (a0_0 == 0) = false := beq_eq_false_iff_ne.mpr c32
     have c32b1 : (a0_0 != 0) = true := bne_iff_ne.mpr c32
     by_cases c41 : a0_0 = 1
     ·rw [if_pos c41] at H
      have c41b0 : (a0_0 == 1) = true := beq_iff_eq.mpr c41
      have c41b1 : (a0_0 != 1) = false := bne_eq_false_iff_eq.mpr c41
      clear c41
      replace H := Option.bind_eq_some_iff.mp H
      obtain ⟨t233, A420, H⟩ := H
      have A42 := aA A420
      clear A420
      by_cases c43 : t233 = true
      ·subst c43
       have H1 : (some false) = some r := by rw [if_pos rfl] at H; exact H
       clear H
       have H := H1
       clear H1
       obtain rfl := Option.some.inj H
       go_enter Try.func52, Try.ntmps52
       go_wp2_with (first | ((with_reducible refine gate_dst (N := 1) rfl ?_); (try (refine gate_guard (by rfl) ?_; dsimp only)); refine box_event ?hg (N := 1) ?hd (cs := #[.int .i64 a0_0, .slice A0_1 l0_1.length c0_1, .int .i64 a0_2, .int .i64 a0_3, .slice A0_4 l0_4.length c0_4]) (t := 71) ?hr ?_; (case hd => rfl); (case hg => rfl); (case hr => first | (go_simp; done) | (go_simp; rfl)); intro gb228 hg w44 hbox hb; have n0_ := aA (below_step mB hb); have n1_ := aA (hbox); have n2_ := aA ((bZ hg mB)); have n3_ := aA ((bZ hg mB)); clear HB; have HB := n0_; have BK228 := n1_; have GW228 := n2_; have GE228 := n3_; clear n0_ n1_ n2_ n3_ hb hbox hg; obtain ⟨hcz45_0, hcz45_1, hcz45_2, hcz45_3, hcz45_4⟩ := bC5 BK228.out; obtain ⟨hfz45_0, hfz45_1, hfz45_2, hfz45_3, hfz45_4⟩ := bF5 BK228.out) | (go_at_call 15; (with_reducible refine (label_Right.calls _ _ l0_1 true _ ?side1 ?side2 A42.out).mono ?_); (case side1 => exact mC ((Kd.C_below HR0_1.out HB.out))); (case side2 => exact HC0_1.out); rintro e w46 ⟨rfl, hb⟩; have n0_ := aA (bB BK228.out hb); have n1_ := aA (below_step (mD1 GE228.out) hb); clear BK228 HB; have BK228 := n0_; have HB := n1_; clear n0_ n1_; (try clear hb); (try clear hb2); (try clear hk); (try clear hi)))
       go_ret
       exact ⟨by first | rfl | (simp [errW_none, errW_some] <;> rfl) | (simp [*, errW_none, errW_some] <;> rfl), by repeat (first | (with_reducible first | exact HB.out | apply below_alloc | apply pw_below_drewN | apply below_drew1 | refine below_set ?_ GE228.out) | exact HB.out)⟩
      ·replace c43 := Bool.eq_false_iff.mpr c43
       subst c43
       have H1 : (some false) = some r := by rw [if_neg (show ¬ (false = true) by decide)] at H; exact H
       clear H
       have H := H1
       clear H1
       obtain rfl := Option.some.inj H
       go_enter Try.func52, Try.ntmps52
       go_wp2_with (first | ((with_reducible refine gate_dst (N := 1) rfl ?_); (try (refine gate_guard (by rfl) ?_; dsimp only)); refine box_event ?hg (N := 1) ?hd (cs := #[.int .i64 a0_0, .slice A0_1 l0_1.length c0_1, .int .i64 a0_2, .int .i64 a0_3, .slice A0_4 l0_4.length c0_4]) (t := 71) ?hr ?_; (case hd => rfl); (case hg => rfl); (case hr => first | (go_simp; done) | (go_simp; rfl)); intro gb228 hg w47 hbox hb; have n0_ := aA (below_step mB hb); have n1_ := aA (hbox); have n2_ := aA ((bZ hg mB)); have n3_ := aA ((bZ hg mB)); clear HB; have HB := n0_; have BK228 := n1_; have GW228 := n2_; have GE228 := n3_; clear n0_ n1_ n2_ n3_ hb hbox hg; obtain ⟨hcz48_0, hcz48_1, hcz48_2, hcz48_3, hcz48_4⟩ := bC5 BK228.out; obtain ⟨hfz48_0, hfz48_1, hfz48_2, hfz48_3, hfz48_4⟩ := bF5 BK228.out) | (go_at_call 15; (with_reducible refine (label_Right.calls _ _ l0_1 false _ ?side1 ?side2 A42.out).mono ?_); (case side1 => exact mC ((Kd.C_below HR0_1.out HB.out))); (case side2 => exact HC0_1.out); rintro e w49 ⟨rfl, hb⟩; have n0_ := aA (bB BK228.out hb); have n1_ := aA (below_step (mD1 GE228.out) hb); clear BK228 HB; have BK228 := n0_; have HB := n1_; clear n0_ n1_; (try clear hb); (try clear hb2); (try clear hk); (try clear hi)))
       go_ret
       exact ⟨by first | rfl | (simp [errW_none, errW_some] <;> rfl) | (simp [*, errW_none, errW_some] <;> rfl), by repeat (first | (with_reducible first | exact HB.out | apply below_alloc | apply pw_below_drewN | apply below_drew1 | refine below_set ?_ GE228.out) | exact HB.out)⟩
     ·rw [if_neg c41] at H
      have c41b0 : (a0_0 == 1) = false := beq_eq_false_iff_ne.mpr c41
      have c41b1 : (a0_0 != 1) = true := bne_iff_ne.mpr c41
      obtain rfl := Option.some.inj H
      go_enter Try.func52, Try.ntmps52
      go_wp2_with (first | ((with_reducible refine gate_dst (N := 1) rfl ?_); (try (refine gate_guard (by rfl) ?_; dsimp only)); refine box_event ?hg (N := 1) ?hd (cs := #[.int .i64 a0_0, .slice A0_1 l0_1.length c0_1, .int .i64 a0_2, .int .i64 a0_3, .slice A0_4 l0_4.length c0_4]) (t := 71) ?hr ?_; (case hd => rfl); (case hg => rfl); (case hr => first | (go_simp; done) | (go_simp; rfl)); intro gb228 hg w50 hbox hb; have n0_ := aA (below_step mB hb); have n1_ := aA (hbox); have n2_ := aA ((bZ hg mB)); have n3_ := aA ((bZ hg mB)); clear HB; have HB := n0_; have BK228 := n1_; have GW228 := n2_; have GE228 := n3_; clear n0_ n1_ n2_ n3_ hb hbox hg; obtain ⟨hcz51_0, hcz51_1, hcz51_2, hcz51_3, hcz51_4⟩ := bC5 BK228.out; obtain ⟨hfz51_0, hfz51_1, hfz51_2, hfz51_3, hfz51_4⟩ := bF5 BK228.out))
      go_ret
      exact ⟨by first | rfl | (simp [errW_none, errW_some] <;> rfl) | (simp [*, errW_none, errW_some] <;> rfl), by repeat (first | (with_reducible first | exact HB.out | apply below_alloc | apply pw_below_drewN | apply below_drew1 | refine below_set ?_ GE228.out) | exact HB.out)⟩
  ·rw [if_neg c10] at H
   have c10b0 : (a0_2 == 0) = false := beq_eq_false_iff_ne.mpr c10
   have c10b1 : (a0_2 != 0) = true := bne_iff_ne.mpr c10
   by_cases c52 : a0_0 = 0
   ·rw [if_pos c52] at H
    have c52b0 : (a0_0 == 0) = true := beq_iff_eq.mpr c52
    have c52b1 : (a0_0 != 0) = false := bne_eq_false_iff_eq.mpr c52
    clear c52
    replace H := Option.bind_eq_some_iff.mp H
    obtain ⟨t234, A530, H⟩ := H
    have A53 := aA A530
    clear A530
    by_cases c54 : t234 = true
    ·subst c54
     have H1 : (some false) = some r := by rw [if_pos rfl] at H; exact H
     clear H
     have H := H1
     clear H1
     obtain rfl := Option.some.inj H
     go_enter Try.func52, Try.ntmps52
     go_wp2_with (first | ((with_reducible refine gate_dst (N := 1) rfl ?_); (try (refine gate_guard (by rfl) ?_; dsimp only)); refine box_event ?hg (N := 1) ?hd (cs := #[.int .i64 a0_0, .slice A0_1 l0_1.length c0_1, .int .i64 a0_2, .int .i64 a0_3, .slice A0_4 l0_4.length c0_4]) (t := 71) ?hr ?_; (case hd => rfl); (case hg => rfl); (case hr => first | (go_simp; done) | (go_simp; rfl)); intro gb228 hg w55 hbox hb; have n0_ := aA (below_step mB hb); have n1_ := aA (hbox); have n2_ := aA ((bZ hg mB)); have n3_ := aA ((bZ hg mB)); clear HB; have HB := n0_; have BK228 := n1_; have GW228 := n2_; have GE228 := n3_; clear n0_ n1_ n2_ n3_ hb hbox hg; obtain ⟨hcz56_0, hcz56_1, hcz56_2, hcz56_3, hcz56_4⟩ := bC5 BK228.out; obtain ⟨hfz56_0, hfz56_1, hfz56_2, hfz56_3, hfz56_4⟩ := bF5 BK228.out) | (go_at_call 15; (with_reducible refine (label_Right.calls _ _ l0_1 true _ ?side1 ?side2 A53.out).mono ?_); (case side1 => exact mC ((Kd.C_below HR0_1.out HB.out))); (case side2 => exact HC0_1.out); rintro e w57 ⟨rfl, hb⟩; have n0_ := aA (bB BK228.out hb); have n1_ := aA (below_step (mD1 GE228.out) hb); clear BK228 HB; have BK228 := n0_; have HB := n1_; clear n0_ n1_; (try clear hb); (try clear hb2); (try clear hk); (try clear hi)))
     go_ret
     exact ⟨by first | rfl | (simp [errW_none, errW_some] <;> rfl) | (simp [*, errW_none, errW_some] <;> rfl), by repeat (first | (with_reducible first | exact HB.out | apply below_alloc | apply pw_below_drewN | apply below_drew1 | refine below_set ?_ GE228.out) | exact HB.out)⟩
    ·replace c54 := Bool.eq_false_iff.mpr c54
     subst c54
     have H1 : (some false) = some r := by rw [if_neg (show ¬ (false = true) by decide)] at H; exact H
     clear H
     have H := H1
     clear H1
     obtain rfl := Option.some.inj H
     go_enter Try.func52, Try.ntmps52
     go_wp2_with (first | ((with_reducible refine gate_dst (N := 1) rfl ?_); (try (refine gate_guard (by rfl) ?_; dsimp only)); refine box_event ?hg (N := 1) ?hd (cs := #[.int .i64 a0_0, .slice A0_1 l0_1.length c0_1, .int .i64 a0_2, .int .i64 a0_3, .slice A0_4 l0_4.length c0_4]) (t := 71) ?hr ?_; (case hd => rfl); (case hg => rfl); (case hr => first | (go_simp; done) | (go_simp; rfl)); intro gb228 hg w58 hbox hb; have n0_ := aA (below_step mB hb); have n1_ := aA (hbox); have n2_ := aA ((bZ hg mB)); have n3_ := aA ((bZ hg mB)); clear HB; have HB := n0_; have BK228 := n1_; have GW228 := n2_; have GE228 := n3_; clear n0_ n1_ n2_ n3_ hb hbox hg; obtain ⟨hcz59_0, hcz59_1, hcz59_2, hcz59_3, hcz59_4⟩ := bC5 BK228.out; obtain ⟨hfz59_0, hfz59_1, hfz59_2, hfz59_3, hfz59_4⟩ := bF5 BK228.out) | (go_at_call 15; (with_reducible refine (label_Right.calls _ _ l0_1 false _ ?side1 ?side2 A53.out).mono ?_); (case side1 => exact mC ((Kd.C_below HR0_1.out HB.out))); (case side2 => exact HC0_1.out); rintro e w60 ⟨rfl, hb⟩; have n0_ := aA (bB BK228.out hb); have n1_ := aA (below_step (mD1 GE228.out) hb); clear BK228 HB; have BK228 := n0_; have HB := n1_; clear n0_ n1_; (try clear hb); (try clear hb2); (try clear hk); (try clear hi)))
     go_ret
     exact ⟨by first | rfl | (simp [errW_none, errW_some] <;> rfl) | (simp [*, errW_none, errW_some] <;> rfl), by repeat (first | (with_reducible first | exact HB.out | apply below_alloc | apply pw_below_drewN | apply below_drew1 | refine below_set ?_ GE228.out) | exact HB.out)⟩
   ·rw [if_neg c52] at H
    have c52b0 : (a0_0 == 0) = false := beq_eq_false_iff_ne.mpr c52
    have c52b1 : (a0_0 != 0) = true := bne_iff_ne.mpr c52
    by_cases c61 : a0_0 = 1
    ·rw [if_pos c61] at H
     have c61b0 : (a0_0 == 1) = true := beq_iff_eq.mpr c61
     have c61b1 : (a0_0 != 1) = false := bne_eq_false_iff_eq.mpr c61
     clear c61
     replace H := Option.bind_eq_some_iff.mp H
     obtain ⟨t235, A620, H⟩ := H
     have A62 := aA A620
     clear A620
     by_cases c63 : t235 = true
     ·subst c63
      have H1 : (some false) = some r := by rw [if_pos rfl] at H; exact H
      clear H
      have H := H1
      clear H1
      obtain rfl := Option.some.inj H
      go_enter Try.func52, Try.ntmps52
      go_wp2_with (first | ((with_reducible refine gate_dst (N := 1) rfl ?_); (try (refine gate_guard (by rfl) ?_; dsimp only)); refine box_event ?hg (N := 1) ?hd (cs := #[.int .i64 a0_0, .slice A0_1 l0_1.length c0_1, .int .i64 a0_2, .int .i64 a0_3, .slice A0_4 l0_4.length c0_4]) (t := 71) ?hr ?_; (case hd => rfl); (case hg => rfl); (case hr => first | (go_simp; done) | (go_simp; rfl)); intro gb228 hg w64 hbox hb; have n0_ := aA (below_step mB hb); have n1_ := aA (hbox); have n2_ := aA ((bZ hg mB)); have n3_ := aA ((bZ hg mB)); clear HB; have HB := n0_; have BK228 := n1_; have GW228 := n2_; have GE228 := n3_; clear n0_ n1_ n2_ n3_ hb hbox hg; obtain ⟨hcz65_0, hcz65_1, hcz65_2, hcz65_3, hcz65_4⟩ := bC5 BK228.out; obtain ⟨hfz65_0, hfz65_1, hfz65_2, hfz65_3, hfz65_4⟩ := bF5 BK228.out) | (go_at_call 15; (with_reducible refine (label_Right.calls _ _ l0_1 true _ ?side1 ?side2 A62.out).mono ?_); (case side1 => exact mC ((Kd.C_below HR0_1.out HB.out))); (case side2 => exact HC0_1.out); rintro e w66 ⟨rfl, hb⟩; have n0_ := aA (bB BK228.out hb); have n1_ := aA (below_step (mD1 GE228.out) hb); clear BK228 HB; have BK228 := n0_; have HB := n1_; clear n0_ n1_; (try clear hb); (try clear hb2); (try clear hk); (try clear hi)))
      go_ret
      exact ⟨by first | rfl | (simp [errW_none, errW_some] <;> rfl) | (simp [*, errW_none, errW_some] <;> rfl), by repeat (first | (with_reducible first | exact HB.out | apply below_alloc | apply pw_below_drewN | apply below_drew1 | refine below_set ?_ GE228.out) | exact HB.out)⟩
     ·replace c63 := Bool.eq_false_iff.mpr c63
      subst c63
      have H1 : (some false) = some r := by rw [if_neg (show ¬ (false = true) by decide)] at H; exact H
      clear H
      have H := H1
      clear H1
      obtain rfl := Option.some.inj H
      go_enter Try.func52, Try.ntmps52
      go_wp2_with (first | ((with_reducible refine gate_dst (N := 1) rfl ?_); (try (refine gate_guard (by rfl) ?_; dsimp only)); refine box_event ?hg (N := 1) ?hd (cs := #[.int .i64 a0_0, .slice A0_1 l0_1.length c0_1, .int .i64 a0_2, .int .i64 a0_3, .slice A0_4 l0_4.length c0_4]) (t := 71) ?hr ?_; (case hd => rfl); (case hg => rfl); (case hr => first | (go_simp; done) | (go_simp; rfl)); intro gb228 hg w67 hbox hb; have n0_ := aA (below_step mB hb); have n1_ := aA (hbox); have n2_ := aA ((bZ hg mB)); have n3_ := aA ((bZ hg mB)); clear HB; have HB := n0_; have BK228 := n1_; have GW228 := n2_; have GE228 := n3_; clear n0_ n1_ n2_ n3_ hb hbox hg; obtain ⟨hcz68_0, hcz68_1, hcz68_2, hcz68_3, hcz68_4⟩ := bC5 BK228.out; obtain ⟨hfz68_0, hfz68_1, hfz68_2, hfz68_3, hfz68_4⟩ := bF5 BK228.out) | (go_at_call 15; (with_reducible refine (label_Right.calls _ _ l0_1 false _ ?side1 ?side2 A62.out).mono ?_); (case side1 => exact mC ((Kd.C_below HR0_1.out HB.out))); (case side2 => exact HC0_1.out); rintro e w69 ⟨rfl, hb⟩; have n0_ := aA (bB BK228.out hb); have n1_ := aA (below_step (mD1 GE228.out) hb); clear BK228 HB; have BK228 := n0_; have HB := n1_; clear n0_ n1_; (try clear hb); (try clear hb2); (try clear hk); (try clear hi)))
      go_ret
      exact ⟨by first | rfl | (simp [errW_none, errW_some] <;> rfl) | (simp [*, errW_none, errW_some] <;> rfl), by repeat (first | (with_reducible first | exact HB.out | apply below_alloc | apply pw_below_drewN | apply below_drew1 | refine below_set ?_ GE228.out) | exact HB.out)⟩
    ·rw [if_neg c61] at H
     have c61b0 : (a0_0 == 1) = false := beq_eq_false_iff_ne.mpr c61
     have c61b1 : (a0_0 != 1) = true := bne_iff_ne.mpr c61
     obtain rfl := Option.some.inj H
     go_enter Try.func52, Try.ntmps52
     go_wp2_with (first | ((with_reducible refine gate_dst (N := 1) rfl ?_); (try (refine gate_guard (by rfl) ?_; dsimp only)); refine box_event ?hg (N := 1) ?hd (cs := #[.int .i64 a0_0, .slice A0_1 l0_1.length c0_1, .int .i64 a0_2, .int .i64 a0_3, .slice A0_4 l0_4.length c0_4]) (t := 71) ?hr ?_; (case hd => rfl); (case hg => rfl); (case hr => first | (go_simp; done) | (go_simp; rfl)); intro gb228 hg w70 hbox hb; have n0_ := aA (below_step mB hb); have n1_ := aA (hbox); have n2_ := aA ((bZ hg mB)); have n3_ := aA ((bZ hg mB)); clear HB; have HB := n0_; have BK228 := n1_; have GW228 := n2_; have GE228 := n3_; clear n0_ n1_ n2_ n3_ hb hbox hg; obtain ⟨hcz71_0, hcz71_1, hcz71_2, hcz71_3, hcz71_4⟩ := bC5 BK228.out; obtain ⟨hfz71_0, hfz71_1, hfz71_2, hfz71_3, hfz71_4⟩ := bF5 BK228.out))
     go_ret
     exact ⟨by first | rfl | (simp [errW_none, errW_some] <;> rfl) | (simp [*, errW_none, errW_some] <;> rfl), by repeat (first | (with_reducible first | exact HB.out | apply below_alloc | apply pw_below_drewN | apply below_drew1 | refine below_set ?_ GE228.out) | exact HB.out)⟩
end Go.Proofs.YtndgollcganhmaaQ.P
namespace Go.Proofs.YtndgollcganhmaaQ.P
open Go.RowKit Go.Proofs.YtndgollcganhmaaW.PrintWords Go.Proofs.YtndgollcganhmaaW.PrintLast Go.Proofs.YtndgollcganhmaaW.PrintMore
attribute [local go_sem] max2_int min2_int max_two min_two max_three min_three max_four min_four
def code_Right.f (a0_0 : Int) (l0_1 : List (S41)) (a0_2 : Int) (a0_3 : Int) (a0_4 : Int) (a0_5 : Int) (a0_6 : Int) (l0_7 : List (S41)) (a0_8 : Int) (a0_9 : Int) (l0_10 : List (S35)) : Option (Bool) := if a0_0 = 1 then ((code_isDuty.f l0_1 a0_2 a0_3 a0_4 a0_5 a0_6).bind fun t237 => (if t237 = true then (if (l0_7.length : Int) = 0 then ((code_noHush.f a0_8 a0_9 l0_10).bind fun t238 => (some t238)) else (some false)) else (some false))) else (if a0_0 = 2 then ((label_Right.f l0_7).bind fun t239 => (if t239 = true then ((code_noDuty.f l0_1 a0_2 a0_3 a0_4 a0_5 a0_6).bind fun t240 => (if t240 = true then ((code_noHush.f a0_8 a0_9 l0_10).bind fun t241 => (some t241)) else (some false))) else (some false))) else (if a0_0 = 3 then ((wire_Right.f 2 ([] : List (S41)) a0_8 a0_9 l0_10).bind fun t242 => (if t242 = true then ((code_noDuty.f l0_1 a0_2 a0_3 a0_4 a0_5 a0_6).bind fun t243 => (if t243 = true then (some ((l0_7.length : Int) == 0)) else (some false))) else (some false))) else (some false)))
set_option maxHeartbeats 8000000 in
set_option maxRecDepth 100000 in
theorem code_Right.calls (a0_0 : Int) (A0_1 : Option Addr) (c0_1 : Nat) (l0_1 : List (S41)) (a0_2 : Int) (a0_3 : Int) (a0_4 : Int) (a0_5 : Int) (a0_6 : Int) (A0_7 : Option Addr) (c0_7 : Nat) (l0_7 : List (S41)) (a0_8 : Int) (a0_9 : Int) (A0_10 : Option Addr) (c0_10 : Nat) (l0_10 : List (S35)) (r : Bool) (w : World) (hr0_1 : Kd.C k41 w A0_1 l0_1.length l0_1) (hc0_1 : l0_1.length ≤ c0_1) (hr0_7 : Kd.C k41 w A0_7 l0_7.length l0_7) (hc0_7 : l0_7.length ≤ c0_7) (hr0_10 : Kd.C k35 w A0_10 l0_10.length l0_10) (hc0_10 : l0_10.length ≤ c0_10) (h : code_Right.f a0_0 l0_1 a0_2 a0_3 a0_4 a0_5 a0_6 l0_7 a0_8 a0_9 l0_10 = some r) :
  Calls Try.prog 26 #[.agg #[.int .i64 a0_0, .slice A0_1 l0_1.length c0_1, .int .i64 a0_2, .int .i64 a0_3, .int .i64 a0_4, .int .i64 a0_5, .int .i64 a0_6, .slice A0_7 l0_7.length c0_7, .int .i64 a0_8, .int .i64 a0_9, .slice A0_10 l0_10.length c0_10]] w fun e w' => e = .returned (.bool r) ∧ Below w.heap.size w w' := by
 have hu50 := Try.underlying50
 have hu46 := Try.underlying46
 have hu48 := Try.underlying48
 have hu71 := Try.underlying71
 have HR0_1 := aA hr0_1
 have HC0_1 := aA hc0_1
 clear hr0_1 hc0_1
 have HR0_7 := aA hr0_7
 have HC0_7 := aA hc0_7
 clear hr0_7 hc0_7
 have HR0_10 := aA hr0_10
 have HC0_10 := aA hc0_10
 clear hr0_10 hc0_10
 have HB := aA (Below.refl w.heap.size w)
 have H : (if a0_0 = 1 then ((code_isDuty.f l0_1 a0_2 a0_3 a0_4 a0_5 a0_6).bind fun t237 => (if t237 = true then (if (l0_7.length : Int) = 0 then ((code_noHush.f a0_8 a0_9 l0_10).bind fun t238 => (some t238)) else (some false)) else (some false))) else (if a0_0 = 2 then ((label_Right.f l0_7).bind fun t239 => (if t239 = true then ((code_noDuty.f l0_1 a0_2 a0_3 a0_4 a0_5 a0_6).bind fun t240 => (if t240 = true then ((code_noHush.f a0_8 a0_9 l0_10).bind fun t241 => (some t241)) else (some false))) else (some false))) else (if a0_0 = 3 then ((wire_Right.f 2 ([] : List (S41)) a0_8 a0_9 l0_10).bind fun t242 => (if t242 = true then ((code_noDuty.f l0_1 a0_2 a0_3 a0_4 a0_5 a0_6).bind fun t243 => (if t243 = true then (some ((l0_7.length : Int) == 0)) else (some false))) else (some false))) else (some false)))) = some r := h
 clear h
 by_cases c2 : a0_0 = 1
 ·rw [if_pos c2] at H
  have c2b0 : (a0_0 == 1) = true := beq_iff_eq.mpr c2
  have c2b1 : (a0_0 != 1) = false := bne_eq_false_iff_eq.mpr c2
  clear c2
  replace H := Option.bind_eq_some_iff.mp H
  obtain ⟨t237, A30, H⟩ := H
  have A3 := aA A30
  clear A30
  by_cases c4 : t237 = true
  ·subst c4
   have H1 : (if (l0_7.length : Int) = 0 then ((code_noHush.f a0_8 a0_9 l0_10).bind fun t238 => (some t238)) else (some false)) = some r := by rw [if_pos rfl] at H; exact H
   clear H
   have H := H1
   clear H1
   by_cases c5 : (l0_7.length : Int) = 0
   ·rw [if_pos c5] at H
    have c5b0 : ((l0_7.length : Int) == 0) = true := beq_iff_eq.mpr c5
    have c5b1 : ((l0_7.length : Int) != 0) = false := bne_eq_false_iff_eq.mpr c5
    clear c5
    replace H := Option.bind_eq_some_iff.mp H
    obtain ⟨t238, A60, H⟩ := H
    have A6 := aA A60
    clear A60
    obtain rfl := Option.some.inj H
    go_enter Try.func26, Try.ntmps26
    go_wp2_with (first | ((with_reducible refine gate_dst (N := 1) rfl ?_); (try (refine gate_guard (by rfl) ?_; dsimp only)); refine box_event ?hg (N := 1) ?hd (cs := #[.int .i64 a0_0, .slice A0_1 l0_1.length c0_1, .int .i64 a0_2, .int .i64 a0_3, .int .i64 a0_4, .int .i64 a0_5, .int .i64 a0_6, .slice A0_7 l0_7.length c0_7, .int .i64 a0_8, .int .i64 a0_9, .slice A0_10 l0_10.length c0_10]) (t := 50) ?hr ?_; (case hd => rfl); (case hg => rfl); (case hr => first | (go_simp; done) | (go_simp; rfl)); intro gb236 hg w7 hbox hb; have n0_ := aA (below_step mB hb); have n1_ := aA (hbox); have n2_ := aA ((bZ hg mB)); have n3_ := aA ((bZ hg mB)); clear HB; have HB := n0_; have BK236 := n1_; have GW236 := n2_; have GE236 := n3_; clear n0_ n1_ n2_ n3_ hb hbox hg; obtain ⟨hcz8_0, hcz8_1, hcz8_2, hcz8_3, hcz8_4, hcz8_5, hcz8_6, hcz8_7, hcz8_8, hcz8_9, hcz8_10⟩ := bC11 BK236.out; obtain ⟨hfz8_0, hfz8_1, hfz8_2, hfz8_3, hfz8_4, hfz8_5, hfz8_6, hfz8_7, hfz8_8, hfz8_9, hfz8_10⟩ := bF11 BK236.out) | ((with_reducible refine gate_callee (f := 49) rfl ?_); refine goesL_ (some 9) rfl rfl Try.func49 (by kernel_rfl) rfl #[.agg #[.slice A0_1 l0_1.length c0_1, .int .i64 a0_2, .int .i64 a0_3, .int .i64 a0_4, .int .i64 a0_5, .int .i64 a0_6]] rfl mS ?_; (with_reducible refine (code_isDuty.calls _ _ l0_1 a0_2 a0_3 a0_4 a0_5 a0_6 true _ ?side1 ?side2 A3.out).mono ?_); (case side1 => exact mC ((Kd.C_below HR0_1.out HB.out))); (case side2 => exact HC0_1.out); rintro e w9 ⟨rfl, hb⟩; refine ⟨_, rfl, ?_⟩; have n0_ := aA (bB BK236.out hb); have n1_ := aA (below_step (mD1 GE236.out) hb); clear BK236 HB; have BK236 := n0_; have HB := n1_; clear n0_ n1_; (try clear hb); (try clear hb2); (try clear hk); (try clear hi); obtain ⟨hcz10_0, hcz10_1, hcz10_2, hcz10_3, hcz10_4, hcz10_5, hcz10_6, hcz10_7, hcz10_8, hcz10_9, hcz10_10⟩ := bC11 BK236.out; obtain ⟨hfz10_0, hfz10_1, hfz10_2, hfz10_3, hfz10_4, hfz10_5, hfz10_6, hfz10_7, hfz10_8, hfz10_9, hfz10_10⟩ := bF11 BK236.out) | (go_at_call 50; (with_reducible refine (code_noHush.calls a0_8 a0_9 _ _ l0_10 t238 _ ?side1 ?side2 A6.out).mono ?_); (case side1 => exact mC ((Kd.C_below HR0_10.out HB.out))); (case side2 => exact HC0_10.out); rintro e w11 ⟨rfl, hb⟩; have n0_ := aA (bB BK236.out hb); have n1_ := aA (below_step (mD1 GE236.out) hb); clear BK236 HB; have BK236 := n0_; have HB := n1_; clear n0_ n1_; (try clear hb); (try clear hb2); (try clear hk); (try clear hi)))
    go_ret
    exact ⟨by first | rfl | (simp [errW_none, errW_some] <;> rfl) | (simp [*, errW_none, errW_some] <;> rfl), by repeat (first | (with_reducible first | exact HB.out | apply below_alloc | apply pw_below_drewN | apply below_drew1 | refine below_set ?_ GE236.out) | exact HB.out)⟩
   ·rw [if_neg c5] at H
    have c5b0 : ((l0_7.length : Int) == 0) = false := beq_eq_false_iff_ne.mpr c5
    have c5b1 : ((l0_7.length : Int) != 0) = true := bne_iff_ne.mpr c5
    have c5b2 : ¬ (l0_7 = []) := fun h_ => c5 (by rw [h_]; rfl)
    obtain rfl := Option.some.inj H
    go_enter Try.func26, Try.ntmps26
    go_wp2_with (first | ((with_reducible refine gate_dst (N := 1) rfl ?_); (try (refine gate_guard (by rfl) ?_; dsimp only)); refine box_event ?hg (N := 1) ?hd (cs := #[.int .i64 a0_0, .slice A0_1 l0_1.length c0_1, .int .i64 a0_2, .int .i64 a0_3, .int .i64 a0_4, .int .i64 a0_5, .int .i64 a0_6, .slice A0_7 l0_7.length c0_7, .int .i64 a0_8, .int .i64 a0_9, .slice A0_10 l0_10.length c0_10]) (t := 50) ?hr ?_; (case hd => rfl); (case hg => rfl); (case hr => first | (go_simp; done) | (go_simp; rfl)); intro gb236 hg w12 hbox hb; have n0_ := aA (below_step mB hb); have n1_ := aA (hbox); have n2_ := aA ((bZ hg mB)); have n3_ := aA ((bZ hg mB)); clear HB; have HB := n0_; have BK236 := n1_; have GW236 := n2_; have GE236 := n3_; clear n0_ n1_ n2_ n3_ hb hbox hg; obtain ⟨hcz13_0, hcz13_1, hcz13_2, hcz13_3, hcz13_4, hcz13_5, hcz13_6, hcz13_7, hcz13_8, hcz13_9, hcz13_10⟩ := bC11 BK236.out; obtain ⟨hfz13_0, hfz13_1, hfz13_2, hfz13_3, hfz13_4, hfz13_5, hfz13_6, hfz13_7, hfz13_8, hfz13_9, hfz13_10⟩ := bF11 BK236.out) | ((with_reducible refine gate_callee (f := 49) rfl ?_); refine goesL_ (some 9) rfl rfl Try.func49 (by kernel_rfl) rfl #[.agg #[.slice A0_1 l0_1.length c0_1, .int .i64 a0_2, .int .i64 a0_3, .int .i64 a0_4, .int .i64 a0_5, .int .i64 a0_6]] rfl mS ?_; (with_reducible refine (code_isDuty.calls _ _ l0_1 a0_2 a0_3 a0_4 a0_5 a0_6 true _ ?side1 ?side2 A3.out).mono ?_); (case side1 => exact mC ((Kd.C_below HR0_1.out HB.out))); (case side2 => exact HC0_1.out); rintro e w14 ⟨rfl, hb⟩; refine ⟨_, rfl, ?_⟩; have n0_ := aA (bB BK236.out hb); have n1_ := aA (below_step (mD1 GE236.out) hb); clear BK236 HB; have BK236 := n0_; have HB := n1_; clear n0_ n1_; (try clear hb); (try clear hb2); (try clear hk); (try clear hi); obtain ⟨hcz15_0, hcz15_1, hcz15_2, hcz15_3, hcz15_4, hcz15_5, hcz15_6, hcz15_7, hcz15_8, hcz15_9, hcz15_10⟩ := bC11 BK236.out; obtain ⟨hfz15_0, hfz15_1, hfz15_2, hfz15_3, hfz15_4, hfz15_5, hfz15_6, hfz15_7, hfz15_8, hfz15_9, hfz15_10⟩ := bF11 BK236.out))
    go_ret
    exact ⟨by first | rfl | (simp [errW_none, errW_some] <;> rfl) | (simp [*, errW_none, errW_some] <;> rfl), by repeat (first | (with_reducible first | exact HB.out | apply below_alloc | apply pw_below_drewN | apply below_drew1 | refine below_set ?_ GE236.out) | exact HB.out)⟩
  ·replace c4 := Bool.eq_false_iff.mpr c4
   subst c4
   have H1 : (some false) = some r := by rw [if_neg (show ¬ (false = true) by decide)] at H; exact H
   clear H
   have H := H1
   clear H1
   obtain rfl := Option.some.inj H
   go_enter Try.func26, Try.ntmps26
   go_wp2_with (first | ((with_reducible refine gate_dst (N := 1) rfl ?_); (try (refine gate_guard (by rfl) ?_; dsimp only)); refine box_event ?hg (N := 1) ?hd (cs := #[.int .i64 a0_0, .slice A0_1 l0_1.length c0_1, .int .i64 a0_2, .int .i64 a0_3, .int .i64 a0_4, .int .i64 a0_5, .int .i64 a0_6, .slice A0_7 l0_7.length c0_7, .int .i64 a0_8, .int .i64 a0_9, .slice A0_10 l0_10.length c0_10]) (t := 50) ?hr ?_; (case hd => rfl); (case hg => rfl); (case hr => first | (go_simp; done) | (go_simp; rfl)); intro gb236 hg w16 hbox hb; have n0_ := aA (below_step mB hb); have n1_ := aA (hbox); have n2_ := aA ((bZ hg mB)); have n3_ := aA ((bZ hg mB)); clear HB; have HB := n0_; have BK236 := n1_; have GW236 := n2_; have GE236 := n3_; clear n0_ n1_ n2_ n3_ hb hbox hg; obtain ⟨hcz17_0, hcz17_1, hcz17_2, hcz17_3, hcz17_4, hcz17_5, hcz17_6, hcz17_7, hcz17_8, hcz17_9, hcz17_10⟩ := bC11 BK236.out; obtain ⟨hfz17_0, hfz17_1, hfz17_2, hfz17_3, hfz17_4, hfz17_5, hfz17_6, hfz17_7, hfz17_8, hfz17_9, hfz17_10⟩ := bF11 BK236.out) | ((with_reducible refine gate_callee (f := 49) rfl ?_); refine goesL_ (some 9) rfl rfl Try.func49 (by kernel_rfl) rfl #[.agg #[.slice A0_1 l0_1.length c0_1, .int .i64 a0_2, .int .i64 a0_3, .int .i64 a0_4, .int .i64 a0_5, .int .i64 a0_6]] rfl mS ?_; (with_reducible refine (code_isDuty.calls _ _ l0_1 a0_2 a0_3 a0_4 a0_5 a0_6 false _ ?side1 ?side2 A3.out).mono ?_); (case side1 => exact mC ((Kd.C_below HR0_1.out HB.out))); (case side2 => exact HC0_1.out); rintro e w18 ⟨rfl, hb⟩; refine ⟨_, rfl, ?_⟩; have n0_ := aA (bB BK236.out hb); have n1_ := aA (below_step (mD1 GE236.out) hb); clear BK236 HB; have BK236 := n0_; have HB := n1_; clear n0_ n1_; (try clear hb); (try clear hb2); (try clear hk); (try clear hi)))
   go_ret
   exact ⟨by first | rfl | (simp [errW_none, errW_some] <;> rfl) | (simp [*, errW_none, errW_some] <;> rfl), by repeat (first | (with_reducible first | exact HB.out | apply below_alloc | apply pw_below_drewN | apply below_drew1 | refine below_set ?_ GE236.out) | exact HB.out)⟩
 ·rw [if_neg c2] at H
  have c2b0 : (a0_0 == 1) = false := beq_eq_false_iff_ne.mpr c2
  have c2b1 : (a0_0 != 1) = true := bne_iff_ne.mpr c2
  by_cases c19 : a0_0 = 2
  ·rw [if_pos c19] at H
   have c19b0 : (a0_0 == 2) = true := beq_iff_eq.mpr c19
   have c19b1 : (a0_0 != 2) = false := bne_eq_false_iff_eq.mpr c19
   clear c19
   replace H := Option.bind_eq_some_iff.mp H
   obtain ⟨t239, A200, H⟩ := H
   have A20 := aA A200
   clear A200
   by_cases c21 : t239 = true
   ·subst c21
    have H1 : ((code_noDuty.f l0_1 a0_2 a0_3 a0_4 a0_5 a0_6).bind fun t240 => (if t240 = true then ((code_noHush.f a0_8 a0_9 l0_10).bind fun t241 => (some t241)) else (some false))) = some r := by rw [if_pos rfl] at H; exact H
    clear H
    have H := H1
    clear H1
    replace H := Option.bind_eq_some_iff.mp H
    obtain ⟨t240, A220, H⟩ := H
    have A22 := aA A220
    clear A220
    by_cases c23 : t240 = true
    ·subst c23
     have H1 : ((code_noHush.f a0_8 a0_9 l0_10).bind fun t241 => (some t241)) = some r := by rw [if_pos rfl] at H; exact H
     clear H
     have H := H1
     clear H1
     replace H := Option.bind_eq_some_iff.mp H
     obtain ⟨t241, A240, H⟩ := H
     have A24 := aA A240
     clear A240
     obtain rfl := Option.some.inj H
     go_enter Try.func26, Try.ntmps26
     go_wp2_with (first | ((with_reducible refine gate_dst (N := 1) rfl ?_); (try (refine gate_guard (by rfl) ?_; dsimp only)); refine box_event ?hg (N := 1) ?hd (cs := #[.int .i64 a0_0, .slice A0_1 l0_1.length c0_1, .int .i64 a0_2, .int .i64 a0_3, .int .i64 a0_4, .int .i64 a0_5, .int .i64 a0_6, .slice A0_7 l0_7.length c0_7, .int .i64 a0_8, .int .i64 a0_9, .slice A0_10 l0_10.length c0_10]) (t := 50) ?hr ?_; (case hd => rfl); (case hg => rfl); (case hr => first | (go_simp; done) | (go_simp; rfl)); intro gb236 hg w25 hbox hb; have n0_ := aA (below_step mB hb); have n1_ := aA (hbox); have n2_ := aA ((bZ hg mB)); have n3_ := aA ((bZ hg mB)); clear HB; have HB := n0_; have BK236 := n1_; have GW236 := n2_; have GE236 := n3_; clear n0_ n1_ n2_ n3_ hb hbox hg; obtain ⟨hcz26_0, hcz26_1, hcz26_2, hcz26_3, hcz26_4, hcz26_5, hcz26_6, hcz26_7, hcz26_8, hcz26_9, hcz26_10⟩ := bC11 BK236.out; obtain ⟨hfz26_0, hfz26_1, hfz26_2, hfz26_3, hfz26_4, hfz26_5, hfz26_6, hfz26_7, hfz26_8, hfz26_9, hfz26_10⟩ := bF11 BK236.out) | ((with_reducible refine gate_callee (f := 15) rfl ?_); refine goesL_ (some 25) rfl rfl Try.func15 (by kernel_rfl) rfl #[.slice A0_7 l0_7.length c0_7] rfl mS ?_; (with_reducible refine (label_Right.calls _ _ l0_7 true _ ?side1 ?side2 A20.out).mono ?_); (case side1 => exact mC ((Kd.C_below HR0_7.out HB.out))); (case side2 => exact HC0_7.out); rintro e w27 ⟨rfl, hb⟩; refine ⟨_, rfl, ?_⟩; have n0_ := aA (bB BK236.out hb); have n1_ := aA (below_step (mD1 GE236.out) hb); clear BK236 HB; have BK236 := n0_; have HB := n1_; clear n0_ n1_; (try clear hb); (try clear hb2); (try clear hk); (try clear hi); obtain ⟨hcz28_0, hcz28_1, hcz28_2, hcz28_3, hcz28_4, hcz28_5, hcz28_6, hcz28_7, hcz28_8, hcz28_9, hcz28_10⟩ := bC11 BK236.out; obtain ⟨hfz28_0, hfz28_1, hfz28_2, hfz28_3, hfz28_4, hfz28_5, hfz28_6, hfz28_7, hfz28_8, hfz28_9, hfz28_10⟩ := bF11 BK236.out) | (go_at_call 51; (with_reducible refine (code_noDuty.calls _ _ l0_1 a0_2 a0_3 a0_4 a0_5 a0_6 true _ ?side1 ?side2 A22.out).mono ?_); (case side1 => exact mC ((Kd.C_below HR0_1.out HB.out))); (case side2 => exact HC0_1.out); rintro e w29 ⟨rfl, hb⟩; have n0_ := aA (bB BK236.out hb); have n1_ := aA (below_step (mD1 GE236.out) hb); clear BK236 HB; have BK236 := n0_; have HB := n1_; clear n0_ n1_; (try clear hb); (try clear hb2); (try clear hk); (try clear hi); obtain ⟨hcz30_0, hcz30_1, hcz30_2, hcz30_3, hcz30_4, hcz30_5, hcz30_6, hcz30_7, hcz30_8, hcz30_9, hcz30_10⟩ := bC11 BK236.out; obtain ⟨hfz30_0, hfz30_1, hfz30_2, hfz30_3, hfz30_4, hfz30_5, hfz30_6, hfz30_7, hfz30_8, hfz30_9, hfz30_10⟩ := bF11 BK236.out) | (go_at_call 50; (with_reducible refine (code_noHush.calls a0_8 a0_9 _ _ l0_10 t241 _ ?side1 ?side2 A24.out).mono ?_); (case side1 => exact mC ((Kd.C_below HR0_10.out HB.out))); (case side2 => exact HC0_10.out); rintro e w31 ⟨rfl, hb⟩; have n0_ := aA (bB BK236.out hb); have n1_ := aA (below_step (mD1 GE236.out) hb); clear BK236 HB; have BK236 := n0_; have HB := n1_; clear n0_ n1_; (try clear hb); (try clear hb2); (try clear hk); (try clear hi)))
     go_ret
     exact ⟨by first | rfl | (simp [errW_none, errW_some] <;> rfl) | (simp [*, errW_none, errW_some] <;> rfl), by repeat (first | (with_reducible first | exact HB.out | apply below_alloc | apply pw_below_drewN | apply below_drew1 | refine below_set ?_ GE236.out) | exact HB.out)⟩
    ·replace c23 := Bool.eq_false_iff.mpr c23
     subst c23
     have H1 : (some false) = some r := by rw [if_neg (show ¬ (false = true) by decide)] at H; exact H
     clear H
     have H := H1
     clear H1
     obtain rfl := Option.some.inj H
     go_enter Try.func26, Try.ntmps26
     go_wp2_with (first | ((with_reducible refine gate_dst (N := 1) rfl ?_); (try (refine gate_guard (by rfl) ?_; dsimp only)); refine box_event ?hg (N := 1) ?hd (cs := #[.int .i64 a0_0, .slice A0_1 l0_1.length c0_1, .int .i64 a0_2, .int .i64 a0_3, .int .i64 a0_4, .int .i64 a0_5, .int .i64 a0_6, .slice A0_7 l0_7.length c0_7, .int .i64 a0_8, .int .i64 a0_9, .slice A0_10 l0_10.length c0_10]) (t := 50) ?hr ?_; (case hd => rfl); (case hg => rfl); (case hr => first | (go_simp; done) | (go_simp; rfl)); intro gb236 hg w32 hbox hb; have n0_ := aA (below_step mB hb); have n1_ := aA (hbox); have n2_ := aA ((bZ hg mB)); have n3_ := aA ((bZ hg mB)); clear HB; have HB := n0_; have BK236 := n1_; have GW236 := n2_; have GE236 := n3_; clear n0_ n1_ n2_ n3_ hb hbox hg; obtain ⟨hcz33_0, hcz33_1, hcz33_2, hcz33_3, hcz33_4, hcz33_5, hcz33_6, hcz33_7, hcz33_8, hcz33_9, hcz33_10⟩ := bC11 BK236.out; obtain ⟨hfz33_0, hfz33_1, hfz33_2, hfz33_3, hfz33_4, hfz33_5, hfz33_6, hfz33_7, hfz33_8, hfz33_9, hfz33_10⟩ := bF11 BK236.out) | ((with_reducible refine gate_callee (f := 15) rfl ?_); refine goesL_ (some 25) rfl rfl Try.func15 (by kernel_rfl) rfl #[.slice A0_7 l0_7.length c0_7] rfl mS ?_; (with_reducible refine (label_Right.calls _ _ l0_7 true _ ?side1 ?side2 A20.out).mono ?_); (case side1 => exact mC ((Kd.C_below HR0_7.out HB.out))); (case side2 => exact HC0_7.out); rintro e w34 ⟨rfl, hb⟩; refine ⟨_, rfl, ?_⟩; have n0_ := aA (bB BK236.out hb); have n1_ := aA (below_step (mD1 GE236.out) hb); clear BK236 HB; have BK236 := n0_; have HB := n1_; clear n0_ n1_; (try clear hb); (try clear hb2); (try clear hk); (try clear hi); obtain ⟨hcz35_0, hcz35_1, hcz35_2, hcz35_3, hcz35_4, hcz35_5, hcz35_6, hcz35_7, hcz35_8, hcz35_9, hcz35_10⟩ := bC11 BK236.out; obtain ⟨hfz35_0, hfz35_1, hfz35_2, hfz35_3, hfz35_4, hfz35_5, hfz35_6, hfz35_7, hfz35_8, hfz35_9, hfz35_10⟩ := bF11 BK236.out) | (go_at_call 51; (with_reducible refine (code_noDuty.calls _ _ l0_1 a0_2 a0_3 a0_4 a0_5 a0_6 false _ ?side1 ?side2 A22.out).mono ?_); (case side1 => exact mC ((Kd.C_below HR0_1.out HB.out))); (case side2 => exact HC0_1.out); rintro e w36 ⟨rfl, hb⟩; have n0_ := aA (bB BK236.out hb); have n1_ := aA (below_step (mD1 GE236.out) hb); clear BK236 HB; have BK236 := n0_; have HB := n1_; clear n0_ n1_; (try clear hb); (try clear hb2); (try clear hk); (try clear hi)))
     go_ret
     exact ⟨by first | rfl | (simp [errW_none, errW_some] <;> rfl) | (simp [*, errW_none, errW_some] <;> rfl), by repeat (first | (with_reducible first | exact HB.out | apply below_alloc | apply pw_below_drewN | apply below_drew1 | refine below_set ?_ GE236.out) | exact HB.out)⟩
   ·replace c21 := Bool.eq_false_iff.mpr c21
    subst c21
    have H1 : (some false) = some r := by rw [if_neg (show ¬ (false = true) by decide)] at H; exact H
    clear H
    have H := H1
    clear H1
    obtain rfl := Option.some.inj H
    go_enter Try.func26, Try.ntmps26
    go_wp2_with (first | ((with_reducible refine gate_dst (N := 1) rfl ?_); (try (refine gate_guard (by rfl) ?_; dsimp only)); refine box_event ?hg (N := 1) ?hd (cs := #[.int .i64 a0_0, .slice A0_1 l0_1.length c0_1, .int .i64 a0_2, .int .i64 a0_3, .int .i64 a0_4, .int .i64 a0_5, .int .i64 a0_6, .slice A0_7 l0_7.length c0_7, .int .i64 a0_8, .int .i64 a0_9, .slice A0_10 l0_10.length c0_10]) (t := 50) ?hr ?_; (case hd => rfl); (case hg => rfl); (case hr => first | (go_simp; done) | (go_simp; rfl)); intro gb236 hg w37 hbox hb; have n0_ := aA (below_step mB hb); have n1_ := aA (hbox); have n2_ := aA ((bZ hg mB)); have n3_ := aA ((bZ hg mB)); clear HB; have HB := n0_; have BK236 := n1_; have GW236 := n2_; have GE236 := n3_; clear n0_ n1_ n2_ n3_ hb hbox hg; obtain ⟨hcz38_0, hcz38_1, hcz38_2, hcz38_3, hcz38_4, hcz38_5, hcz38_6, hcz38_7, hcz38_8, hcz38_9, hcz38_10⟩ := bC11 BK236.out; obtain ⟨hfz38_0, hfz38_1, hfz38_2, hfz38_3, hfz38_4, hfz38_5, hfz38_6, hfz38_7, hfz38_8, hfz38_9, hfz38_10⟩ := bF11 BK236.out) | ((with_reducible refine gate_callee (f := 15) rfl ?_); refine goesL_ (some 25) rfl rfl Try.func15 (by kernel_rfl) rfl #[.slice A0_7 l0_7.length c0_7] rfl mS ?_; (with_reducible refine (label_Right.calls _ _ l0_7 false _ ?side1 ?side2 A20.out).mono ?_); (case side1 => exact mC ((Kd.C_below HR0_7.out HB.out))); (case side2 => exact HC0_7.out); rintro e w39 ⟨rfl, hb⟩; refine ⟨_, rfl, ?_⟩; have n0_ := aA (bB BK236.out hb); have n1_ := aA (below_step (mD1 GE236.out) hb); clear BK236 HB; have BK236 := n0_; have HB := n1_; clear n0_ n1_; (try clear hb); (try clear hb2); (try clear hk); (try clear hi)))
    go_ret
    exact ⟨by first | rfl | (simp [errW_none, errW_some] <;> rfl) | (simp [*, errW_none, errW_some] <;> rfl), by repeat (first | (with_reducible first | exact HB.out | apply below_alloc | apply pw_below_drewN | apply below_drew1 | refine below_set ?_ GE236.out) | exact HB.out)⟩
  ·rw [if_neg c19] at H
   have c19b0 : (a0_0 == 2) = false := beq_eq_false_iff_ne.mpr c19
   have c19b1 : (a0_0 != 2) = true := bne_iff_ne.mpr c19
   by_cases c40 : a0_0 = 3
   ·rw [if_pos c40] at H
    have c40b0 : (a0_0 == 3) = true := beq_iff_eq.mpr c40
    have c40b1 : (a0_0 != 3) = false := bne_eq_false_iff_eq.mpr c40
    clear c40
    replace H := Option.bind_eq_some_iff.mp H
    obtain ⟨t242, A410, H⟩ := H
    have A41 := aA A410
    clear A410
    by_cases c42 : t242 = true
    ·subst c42
     have H1 : ((code_noDuty.f l0_1 a0_2 a0_3 a0_4 a0_5 a0_6).bind fun t243 => (if t243 = true then (some ((l0_7.length : Int) == 0)) else (some false))) = some r := by rw [if_pos rfl] at H; exact H
     clear H
     have H := H1
     clear H1
     replace H := Option.bind_eq_some_iff.mp H
     obtain ⟨t243, A430, H⟩ := H
     have A43 := aA A430
     clear A430
     by_cases c44 : t243 = true
     ·subst c44
      have H1 : (some ((l0_7.length : Int) == 0)) = some r := by rw [if_pos rfl] at H; exact H
      clear H
      have H := H1
      clear H1
      obtain rfl := Option.some.inj H
      go_enter Try.func26, Try.ntmps26
      go_wp2_with (first | ((with_reducible refine gate_dst (N := 1) rfl ?_); (try (refine gate_guard (by rfl) ?_; dsimp only)); refine box_event ?hg (N := 1) ?hd (cs := #[.int .i64 a0_0, .slice A0_1 l0_1.length c0_1, .int .i64 a0_2, .int .i64 a0_3, .int .i64 a0_4, .int .i64 a0_5, .int .i64 a0_6, .slice A0_7 l0_7.length c0_7, .int .i64 a0_8, .int .i64 a0_9, .slice A0_10 l0_10.length c0_10]) (t := 50) ?hr ?_; (case hd => rfl); (case hg => rfl); (case hr => first | (go_simp; done) | (go_simp; rfl)); intro gb236 hg w45 hbox hb; have n0_ := aA (below_step mB hb); have n1_ := aA (hbox); have n2_ := aA ((bZ hg mB)); have n3_ := aA ((bZ hg mB)); clear HB; have HB := n0_; have BK236 := n1_; have GW236 := n2_; have GE236 := n3_; clear n0_ n1_ n2_ n3_ hb hbox hg; obtain ⟨hcz46_0, hcz46_1, hcz46_2, hcz46_3, hcz46_4, hcz46_5, hcz46_6, hcz46_7, hcz46_8, hcz46_9, hcz46_10⟩ := bC11 BK236.out; obtain ⟨hfz46_0, hfz46_1, hfz46_2, hfz46_3, hfz46_4, hfz46_5, hfz46_6, hfz46_7, hfz46_8, hfz46_9, hfz46_10⟩ := bF11 BK236.out) | ((with_reducible refine gate_callee (f := 52) rfl ?_); refine goesL_ (some 41) rfl rfl Try.func52 (by kernel_rfl) rfl #[.agg #[.int .i64 2, .slice none 0 0, .int .i64 a0_8, .int .i64 a0_9, .slice A0_10 l0_10.length c0_10]] rfl mS ?_; (refine (wire_Right.calls 2 _ _ ([] : List (S41)) a0_8 a0_9 _ _ l0_10 true _ ?side1 ?side2 ?side3 ?side4 A41.out).mono ?_); (case side1 => exact Kd.C_nil _ _); (case side2 => exact Nat.le_refl _); (case side3 => exact mC ((Kd.C_below HR0_10.out HB.out))); (case side4 => exact HC0_10.out); rintro e w47 ⟨rfl, hb⟩; refine ⟨_, rfl, ?_⟩; have n0_ := aA (bB BK236.out hb); have n1_ := aA (below_step (mD1 GE236.out) hb); clear BK236 HB; have BK236 := n0_; have HB := n1_; clear n0_ n1_; (try clear hb); (try clear hb2); (try clear hk); (try clear hi); obtain ⟨hcz48_0, hcz48_1, hcz48_2, hcz48_3, hcz48_4, hcz48_5, hcz48_6, hcz48_7, hcz48_8, hcz48_9, hcz48_10⟩ := bC11 BK236.out; obtain ⟨hfz48_0, hfz48_1, hfz48_2, hfz48_3, hfz48_4, hfz48_5, hfz48_6, hfz48_7, hfz48_8, hfz48_9, hfz48_10⟩ := bF11 BK236.out) | (go_at_call 51; (with_reducible refine (code_noDuty.calls _ _ l0_1 a0_2 a0_3 a0_4 a0_5 a0_6 true _ ?side1 ?side2 A43.out).mono ?_); (case side1 => exact mC ((Kd.C_below HR0_1.out HB.out))); (case side2 => exact HC0_1.out); rintro e w49 ⟨rfl, hb⟩; have n0_ := aA (bB BK236.out hb); have n1_ := aA (below_step (mD1 GE236.out) hb); clear BK236 HB; have BK236 := n0_; have HB := n1_; clear n0_ n1_; (try clear hb); (try clear hb2); (try clear hk); (try clear hi); obtain ⟨hcz50_0, hcz50_1, hcz50_2, hcz50_3, hcz50_4, hcz50_5, hcz50_6, hcz50_7, hcz50_8, hcz50_9, hcz50_10⟩ := bC11 BK236.out; obtain ⟨hfz50_0, hfz50_1, hfz50_2, hfz50_3, hfz50_4, hfz50_5, hfz50_6, hfz50_7, hfz50_8, hfz50_9, hfz50_10⟩ := bF11 BK236.out))
      go_ret
      exact ⟨by first | rfl | (simp [errW_none, errW_some] <;> rfl) | (simp [*, errW_none, errW_some] <;> rfl), by repeat (first | (with_reducible first | exact HB.out | apply below_alloc | apply pw_below_drewN | apply below_drew1 | refine below_set ?_ GE236.out) | exact HB.out)⟩
     ·replace c44 := Bool.eq_false_iff.mpr c44
      subst c44
      have H1 : (some false) = some r := by rw [if_neg (show ¬ (false = true) by decide)] at H; exact H
      clear H
      have H := H1
      clear H1
      obtain rfl := Option.some.inj H
      go_enter Try.func26, Try.ntmps26
      go_wp2_with (first | ((with_reducible refine gate_dst (N := 1) rfl ?_); (try (refine gate_guard (by rfl) ?_; dsimp only)); refine box_event ?hg (N := 1) ?hd (cs := #[.int .i64 a0_0, .slice A0_1 l0_1.length c0_1, .int .i64 a0_2, .int .i64 a0_3, .int .i64 a0_4, .int .i64 a0_5, .int .i64 a0_6, .slice A0_7 l0_7.length c0_7, .int .i64 a0_8, .int .i64 a0_9, .slice A0_10 l0_10.length c0_10]) (t := 50) ?hr ?_; (case hd => rfl); (case hg => rfl); (case hr => first | (go_simp; done) | (go_simp; rfl)); intro gb236 hg w51 hbox hb; have n0_ := aA (below_step mB hb); have n1_ := aA (hbox); have n2_ := aA ((bZ hg mB)); have n3_ := aA ((bZ hg mB)); clear HB; have HB := n0_; have BK236 := n1_; have GW236 := n2_; have GE236 := n3_; clear n0_ n1_ n2_ n3_ hb hbox hg; obtain ⟨hcz52_0, hcz52_1, hcz52_2, hcz52_3, hcz52_4, hcz52_5, hcz52_6, hcz52_7, hcz52_8, hcz52_9, hcz52_10⟩ := bC11 BK236.out; obtain ⟨hfz52_0, hfz52_1, hfz52_2, hfz52_3, hfz52_4, hfz52_5, hfz52_6, hfz52_7, hfz52_8, hfz52_9, hfz52_10⟩ := bF11 BK236.out) | ((with_reducible refine gate_callee (f := 52) rfl ?_); refine goesL_ (some 41) rfl rfl Try.func52 (by kernel_rfl) rfl #[.agg #[.int .i64 2, .slice none 0 0, .int .i64 a0_8, .int .i64 a0_9, .slice A0_10 l0_10.length c0_10]] rfl mS ?_; (refine (wire_Right.calls 2 _ _ ([] : List (S41)) a0_8 a0_9 _ _ l0_10 true _ ?side1 ?side2 ?side3 ?side4 A41.out).mono ?_); (case side1 => exact Kd.C_nil _ _); (case side2 => exact Nat.le_refl _); (case side3 => exact mC ((Kd.C_below HR0_10.out HB.out))); (case side4 => exact HC0_10.out); rintro e w53 ⟨rfl, hb⟩; refine ⟨_, rfl, ?_⟩; have n0_ := aA (bB BK236.out hb); have n1_ := aA (below_step (mD1 GE236.out) hb); clear BK236 HB; have BK236 := n0_; have HB := n1_; clear n0_ n1_; (try clear hb); (try clear hb2); (try clear hk); (try clear hi); obtain ⟨hcz54_0, hcz54_1, hcz54_2, hcz54_3, hcz54_4, hcz54_5, hcz54_6, hcz54_7, hcz54_8, hcz54_9, hcz54_10⟩ := bC11 BK236.out; obtain ⟨hfz54_0, hfz54_1, hfz54_2, hfz54_3, hfz54_4, hfz54_5, hfz54_6, hfz54_7, hfz54_8, hfz54_9, hfz54_10⟩ := bF11 BK236.out) | (go_at_call 51; (with_reducible refine (code_noDuty.calls _ _ l0_1 a0_2 a0_3 a0_4 a0_5 a0_6 false _ ?side1 ?side2 A43.out).mono ?_); (case side1 => exact mC ((Kd.C_below HR0_1.out HB.out))); (case side2 => exact HC0_1.out); rintro e w55 ⟨rfl, hb⟩; have n0_ := aA (bB BK236.out hb); have n1_ := aA (below_step (mD1 GE236.out) hb); clear BK236 HB; have BK236 := n0_; have HB := n1_; clear n0_ n1_; (try clear hb); (try clear hb2); (try clear hk); (try clear hi)))
      go_ret
      exact ⟨by first | rfl | (simp [errW_none, errW_some] <;> rfl) | (simp [*, errW_none, errW_some] <;> rfl), by repeat (first | (with_reducible first | exact HB.out | apply below_alloc | apply pw_below_drewN | apply below_drew1 | refine below_set ?_ GE236.out) | exact HB.out)⟩
    ·replace c42 := Bool.eq_false_iff.mpr c42
     subst c42
     have H1 : (some false) = some r := by rw [if_neg (show ¬ (false = true) by decide)] at H; exact H
     clear H
     have H := H1
     clear H1
     obtain rfl := Option.some.inj H
     go_enter Try.func26, Try.ntmps26
     go_wp2_with (first | ((with_reducible refine gate_dst (N := 1) rfl ?_); (try (refine gate_guard (by rfl) ?_; dsimp only)); refine box_event ?hg (N := 1) ?hd (cs := #[.int .i64 a0_0, .slice A0_1 l0_1.length c0_1, .int .i64 a0_2, .int .i64 a0_3, .int .i64 a0_4, .int .i64 a0_5, .int .i64 a0_6, .slice A0_7 l0_7.length c0_7, .int .i64 a0_8, .int .i64 a0_9, .slice A0_10 l0_10.length c0_10]) (t := 50) ?hr ?_; (case hd => rfl); (case hg => rfl); (case hr => first | (go_simp; done) | (go_simp; rfl)); intro gb236 hg w56 hbox hb; have n0_ := aA (below_step mB hb); have n1_ := aA (hbox); have n2_ := aA ((bZ hg mB)); have n3_ := aA ((bZ hg mB)); clear HB; have HB := n0_; have BK236 := n1_; have GW236 := n2_; have GE236 := n3_; clear n0_ n1_ n2_ n3_ hb hbox hg; obtain ⟨hcz57_0, hcz57_1, hcz57_2, hcz57_3, hcz57_4, hcz57_5, hcz57_6, hcz57_7, hcz57_8, hcz57_9, hcz57_10⟩ := bC11 BK236.out; obtain ⟨hfz57_0, hfz57_1, hfz57_2, hfz57_3, hfz57_4, hfz57_5, hfz57_6, hfz57_7, hfz57_8, hfz57_9, hfz57_10⟩ := bF11 BK236.out) | ((with_reducible refine gate_callee (f := 52) rfl ?_); refine goesL_ (some 41) rfl rfl Try.func52 (by kernel_rfl) rfl #[.agg #[.int .i64 2, .slice none 0 0, .int .i64 a0_8, .int .i64 a0_9, .slice A0_10 l0_10.length c0_10]] rfl mS ?_; (refine (wire_Right.calls 2 _ _ ([] : List (S41)) a0_8 a0_9 _ _ l0_10 false _ ?side1 ?side2 ?side3 ?side4 A41.out).mono ?_); (case side1 => exact Kd.C_nil _ _); (case side2 => exact Nat.le_refl _); (case side3 => exact mC ((Kd.C_below HR0_10.out HB.out))); (case side4 => exact HC0_10.out); rintro e w58 ⟨rfl, hb⟩; refine ⟨_, rfl, ?_⟩; have n0_ := aA (bB BK236.out hb); have n1_ := aA (below_step (mD1 GE236.out) hb); clear BK236 HB; have BK236 := n0_; have HB := n1_; clear n0_ n1_; (try clear hb); (try clear hb2); (try clear hk); (try clear hi)))
     go_ret
     exact ⟨by first | rfl | (simp [errW_none, errW_some] <;> rfl) | (simp [*, errW_none, errW_some] <;> rfl), by repeat (first | (with_reducible first | exact HB.out | apply below_alloc | apply pw_below_drewN | apply below_drew1 | refine below_set ?_ GE236.out) | exact HB.out)⟩
   ·rw [if_neg c40] at H
    have c40b0 : (a0_0 == 3) = false := beq_eq_false_iff_ne.mpr c40
    have c40b1 : (a0_0 != 3) = true := bne_iff_ne.mpr c40
    obtain rfl := Option.some.inj H
    go_enter Try.func26, Try.ntmps26
    go_wp2_with (first | ((with_reducible refine gate_dst (N := 1) rfl ?_); (try (refine gate_guard (by rfl) ?_; dsimp only)); refine box_event ?hg (N := 1) ?hd (cs := #[.int .i64 a0_0, .slice A0_1 l0_1.length c0_1, .int .i64 a0_2, .int .i64 a0_3, .int .i64 a0_4, .int .i64 a0_5, .int .i64 a0_6, .slice A0_7 l0_7.length c0_7, .int .i64 a0_8, .int .i64 a0_9, .slice A0_10 l0_10.length c0_10]) (t := 50) ?hr ?_; (case hd => rfl); (case hg => rfl); (case hr => first | (go_simp; done) | (go_simp; rfl)); intro gb236 hg w59 hbox hb; have n0_ := aA (below_step mB hb); have n1_ := aA (hbox); have n2_ := aA ((bZ hg mB)); have n3_ := aA ((bZ hg mB)); clear HB; have HB := n0_; have BK236 := n1_; have GW236 := n2_; have GE236 := n3_; clear n0_ n1_ n2_ n3_ hb hbox hg; obtain ⟨hcz60_0, hcz60_1, hcz60_2, hcz60_3, hcz60_4, hcz60_5, hcz60_6, hcz60_7, hcz60_8, hcz60_9, hcz60_10⟩ := bC11 BK236.out; obtain ⟨hfz60_0, hfz60_1, hfz60_2, hfz60_3, hfz60_4, hfz60_5, hfz60_6, hfz60_7, hfz60_8, hfz60_9, hfz60_10⟩ := bF11 BK236.out))
    go_ret
    exact ⟨by first | rfl | (simp [errW_none, errW_some] <;> rfl) | (simp [*, errW_none, errW_some] <;> rfl), by repeat (first | (with_reducible first | exact HB.out | apply below_alloc | apply pw_below_drewN | apply below_drew1 | refine below_set ?_ GE236.out) | exact HB.out)⟩
end Go.Proofs.YtndgollcganhmaaQ.P
namespace Go.Proofs.Ytndgollcganhmaa
open Go.RowKit
def BA (T : TypeId) (B g : Nat) (p : Value) (l : List UInt8) (w : World) : Prop := Lib.BuilderAt T 5 B g p (Lib.byteCells l) w
def IB (T : TypeId) (B g : Nat) (l : List UInt8) (w : World) : Prop := BA T B g (.pointer none) l w ∨ BA T B g (.pointer (some ⟨g, 0, none⟩)) l w
def BP (T : TypeId) (B g : Nat) (l : List UInt8) (w w' : World) : Prop := BA T B g (.pointer (some ⟨g, 0, none⟩)) l w' ∧ Below B w w' ∧ Lib.OthersKept 5 (some g) w w'
def BT (T : TypeId) : Prop := liesAt Try.prog Try.prog.depth T (2 / Try.prog.cellsOf T) 0 108 1 = true ∧ T ≠ 5
theorem infoBuilder : ∃ j, Try.prog.info? 108 = some j ∧ j.size = 2 := by
  have : (Try.prog.info? 108).map (·.size) = some 2 := by kernel_rfl
  exact Option.map_eq_some_iff.1 this
set_option maxHeartbeats 1000000 in
set_option maxRecDepth 100000 in
theorem copyCheck_any (T : TypeId) (hT : BT T) (B g : Nat) (l : List UInt8) (w : World) (h : IB T B g l w) :
    Calls Try.prog 116 #[.pointer (some ⟨g, 0, none⟩)] w fun e w' => e = .returned (.tuple #[]) ∧ BP T B g l w w' := by
  obtain ⟨j, hj, hjs⟩ := infoBuilder
  rcases h with h | h
  · have h0 : w.cell? ⟨g, 0, none⟩ = some (.pointer none) := h.cell0
    have hsh := Lib.BuilderAt.shape h
    have hfz := Lib.BuilderAt.frozen0 h
    have HT := Lib.hid hT
    have HH := Lib.hid h
    clear h hT
    go_enter Try.func116, Try.ntmps116
    go_wp2
    rw [Lib.run_to_unsafe w ⟨g, 0, none⟩ Try.underlying105 Try.underlying151 hj (by rw [hjs]; decide) hsh (Nat.zero_lt_succ 1)]
    simp only [Result.andThen]
    rw [Oper.upon_value]
    go_wp2
    rw [run_callFunc_extern Try.func121 (by kernel_rfl) (by kernel_rfl) (by kernel_rfl) (e := Extern.AbiNoEscape.same) (by kernel_rfl)]
    rw [Lib.run_noEscape]
    simp only [Result.andThen]
    rw [Oper.upon_value]
    go_wp2
    rw [Lib.run_from_unsafe w ⟨g, 0, none⟩ Try.underlying151 Try.underlying105 hj hsh HT.out.1]
    simp only [Result.andThen]
    rw [Oper.upon_value]
    go_wp2
    go_end0
    exact ⟨rfl, Lib.BuilderAt.used HH.out _, (Below.refl B w).setCell (p := ⟨g, 0, none⟩) HH.out.1 _, (Lib.OthersKept.refl _ _ w).setCell ⟨g, 0, none⟩ rfl _⟩
  · have h0 : w.cell? ⟨g, 0, none⟩ = some (.pointer (some ⟨g, 0, none⟩)) := h.cell0
    have HH := Lib.hid h
    clear h hT
    go_enter Try.func116, Try.ntmps116
    go_wp2
    rw [Lib.run_neq_ptr_same w _ Try.underlying105 hj]
    go_wp2
    go_end0
    exact ⟨rfl, HH.out, Below.refl _ _, Lib.OthersKept.refl _ _ _⟩
theorem infoByte : ∃ i0, Try.prog.info? 5 = some i0 ∧ i0.zero = some (.int .u8 0) ∧ i0.size = 1 ∧ i0.bytes = 1 := by
  have : (Try.prog.info? 5).map (fun i => (i.zero, i.size, i.bytes)) = some (some (.int .u8 0), 1, 1) := by kernel_rfl
  obtain ⟨i, h1, h2⟩ := Option.map_eq_some_iff.1 this
  simp only [Prod.mk.injEq] at h2
  exact ⟨i, h1, h2.1, h2.2.1, h2.2.2⟩
theorem bcell1 (b : UInt8) : Lib.byteCells [b] = [.int .u8 b.toNat] := rfl
set_option maxHeartbeats 2000000 in
set_option maxRecDepth 100000 in
theorem writeByte_any (T : TypeId) (hT : BT T) (B g : Nat) (l : List UInt8) (c : UInt8) (w : World) (h : IB T B g l w) (hlen : l.length + 1 ≤ 1000000000) (hBw : B ≤ w.heap.size) :
    Calls Try.prog 106 #[.pointer (some ⟨g, 0, none⟩), .int .u8 c.toNat] w fun e w' => e = .returned .nilIface ∧ BP T B g (l ++ [c]) w w' := by
  obtain ⟨i0, hi, hz0, hz1, hz2⟩ := infoByte
  have HC := Lib.hid (copyCheck_any T hT B g l w h)
  have HT := Lib.hid hT
  clear h hT
  go_enter Try.func106, Try.ntmps106
  go_wp2_with (go_at_call 116; refine HC.out.mono ?_)
  rintro e w1 ⟨rfl, h1, hb1, hk1⟩
  obtain ⟨hB, v, hbk, hown, hne⟩ := h1
  rw [Lib.byteCells_length] at hown
  have c0 : w1.cell? ⟨g, 0, none⟩ = some (.pointer (some ⟨g, 0, none⟩)) := by rw [Lib.cell_of_heap hbk]; rfl
  have c1 : w1.cell? ⟨g, 1, none⟩ = some v := by rw [Lib.cell_of_heap hbk]; rfl
  go_wp2_with (at_builtin; refine wpList_append_own _ rfl _ _ 106 rfl B 5 i0 (.int .u8 0) 1 1 Try.underlying106 hi hz0 hz1 hz2 rfl (by decide) _ _ _ rfl (hown.alloc _) ⟨w1.heap.size, 0, none⟩ 1 1 [.int .u8 c.toNat] rfl rfl ?c1 ?c2 ?c3 ?c4 ?c5 ?_)
  case c1 =>
    intro j u hj
    match j, hj with
    | 0, hj => simp at hj; subst hj; simp [Addr.add]
  case c2 => intro u hu; simp at hu; subst hu; rfl
  case c3 => unfold maxLen; omega
  case c4 => omega
  case c5 => have := hb1.size; simp; omega
  intro v' w2 hown' hgrow _
  have hlt : g < w1.heap.size := blk_lt hbk
  have hb2 : w2.heap[g]? = some (.cells #[.pointer (some ⟨g, 0, none⟩), v] T (0, 0)) := by
    rw [hgrow.block g (by simp; omega) (fun e => hne e.symm), Lib.alloc_old w1 _ g hlt]
    exact hbk
  have d0 : w2.cell? ⟨g, 0, none⟩ = some (.pointer (some ⟨g, 0, none⟩)) := by rw [Lib.cell_of_heap hb2]; rfl
  have d1 : w2.cell? ⟨g, 1, none⟩ = some v := by rw [Lib.cell_of_heap hb2]; rfl
  have f1 : w2.frozen? ⟨g, 1, none⟩ = false := Lib.frozen_of_heap hb2 1
  obtain ⟨g1, cap, rfl⟩ : ∃ g cap, v' = .slice (some ⟨g, 0, none⟩) (l.length + 1) cap := by
    rcases hown'.2 with ⟨_, h0⟩ | ⟨g, cap, cur, hv, _⟩
    · omega
    · exact ⟨g, cap, hv⟩
  go_wp2
  go_ret
  refine ⟨rfl, ?_, ?_, ((hk1.alloc _).grown hgrow (Lib.ownsRow_kind (hown.alloc _))).setCell ⟨g, 1, none⟩ rfl _⟩
  · unfold BA
    rw [Lib.byteCells_append, bcell1]
    exact Lib.BuilderAt.put (T := T) (e := 5) hB hb2 (bs' := Lib.byteCells l ++ [.int .u8 c.toNat]) (by simpa [Lib.byteCells_length] using hown') HT.out.2
  · exact ((hb1.alloc (by have := hb1.size; omega) _).grown hgrow (by have := hb1.size; simp; omega) (fun k hk => (hown.lt k hk).1)).setCell (p := ⟨g, 1, none⟩) hB _
set_option maxHeartbeats 2000000 in
set_option maxRecDepth 100000 in
theorem writeString_any (T : TypeId) (hT : BT T) (B g : Nat) (l : List UInt8) (s : ByteArray) (w : World) (h : IB T B g l w) (hlen : l.length + s.size ≤ 1000000000) (hBw : B ≤ w.heap.size) :
    Calls Try.prog 107 #[.pointer (some ⟨g, 0, none⟩), .string s] w fun e w' => e = .returned (.tuple #[.int .i64 s.size, .nilIface]) ∧ BP T B g (l ++ s.data.toList) w w' := by
  obtain ⟨i0, hi, hz0, hz1, hz2⟩ := infoByte
  have HC := Lib.hid (copyCheck_any T hT B g l w h)
  have HT := Lib.hid hT
  clear h hT
  go_enter Try.func107, Try.ntmps107
  go_wp2_with (go_at_call 116; refine HC.out.mono ?_)
  rintro e w1 ⟨rfl, h1, hb1, hk1⟩
  obtain ⟨hB, v, hbk, hown, hne⟩ := h1
  rw [Lib.byteCells_length] at hown
  have c0 : w1.cell? ⟨g, 0, none⟩ = some (.pointer (some ⟨g, 0, none⟩)) := by rw [Lib.cell_of_heap hbk]; rfl
  have c1 : w1.cell? ⟨g, 1, none⟩ = some v := by rw [Lib.cell_of_heap hbk]; rfl
  go_wp2_with (at_builtin; refine Lib.wpList_append_own_string _ rfl _ _ 106 9 rfl B 5 i0 Try.underlying106 Try.underlying9 hi hz0 hz1 hz2 _ _ _ rfl hown s rfl ?c3 ?c4 ?c5 ?_)
  case c3 => unfold maxLen; omega
  case c4 => omega
  case c5 => have := hb1.size; omega
  intro v' w2 hown' hgrow _
  have hlt : g < w1.heap.size := blk_lt hbk
  have hb2 : w2.heap[g]? = some (.cells #[.pointer (some ⟨g, 0, none⟩), v] T (0, 0)) := by
    rw [hgrow.block g hlt (fun e => hne e.symm)]
    exact hbk
  have d0 : w2.cell? ⟨g, 0, none⟩ = some (.pointer (some ⟨g, 0, none⟩)) := by rw [Lib.cell_of_heap hb2]; rfl
  have d1 : w2.cell? ⟨g, 1, none⟩ = some v := by rw [Lib.cell_of_heap hb2]; rfl
  have f1 : w2.frozen? ⟨g, 1, none⟩ = false := Lib.frozen_of_heap hb2 1
  obtain ⟨ao, n', cap, rfl⟩ : ∃ ao n' cap, v' = .slice ao n' cap := by
    rcases hown'.2 with ⟨hv, _⟩ | ⟨g, cap, cur, hv, _⟩
    · exact ⟨_, _, _, hv⟩
    · exact ⟨_, _, _, hv⟩
  go_wp2
  go_ret2
  refine ⟨rfl, ?_, ?_, (hk1.grown hgrow (Lib.ownsRow_kind hown)).setCell ⟨g, 1, none⟩ rfl _⟩
  · unfold BA
    rw [Lib.byteCells_append, ← Lib.strCells_eq]
    exact Lib.BuilderAt.put (T := T) (e := 5) hB hb2 (bs' := Lib.byteCells l ++ Lib.strCells s) (by simpa [Lib.strCells_length, Lib.byteCells_length] using hown') HT.out.2
  · exact (hb1.grown hgrow (by have := hb1.size; omega) (fun k hk => (hown.lt k hk).1)).setCell (p := ⟨g, 1, none⟩) hB _
set_option maxHeartbeats 2000000 in
set_option maxRecDepth 100000 in
theorem bString_any (T : TypeId) (B g : Nat) (l : List UInt8) (w : World) (h : IB T B g l w) (h0 : l ≠ []) :
    Calls Try.prog 83 #[.pointer (some ⟨g, 0, none⟩)] w fun e w' => e = .returned (.string ⟨l.toArray⟩) ∧ Below B w w' := by
  obtain ⟨p, hB, v, hbk, hown, hne⟩ : ∃ p, BA T B g p l w := by
    rcases h with h | h
    · exact ⟨_, h⟩
    · exact ⟨_, h⟩
  have hl0 : l.length ≠ 0 := by simpa using h0
  rw [Lib.byteCells_length] at hown
  obtain ⟨k, cap, cur, rfl, hbg, hg, hnc, hcm, hcs, htake⟩ : ∃ k cap cur, v = .slice (some ⟨k, 0, none⟩) l.length cap ∧ B ≤ k ∧ w.heap[k]? = some (.cells cur 5 (0, 0)) ∧ l.length ≤ cap ∧ cap ≤ maxLen ∧ cur.size = cap * 1 ∧ cur.toList.take (l.length * 1) = Lib.byteCells l := by
    rcases hown.2 with ⟨_, hz⟩ | ⟨g, cap, cur, hv, r⟩
    · exact absurd hz hl0
    · exact ⟨g, cap, cur, hv, r⟩
  have c1 : w.drew.cell? ⟨g, 1, none⟩ = some (.slice (some ⟨k, 0, none⟩) l.length cap) := by
    have : w.drew.heap[g]? = some (.cells #[p, .slice (some ⟨k, 0, none⟩) l.length cap] T (0, 0)) := hbk
    rw [Lib.cell_of_heap this]; rfl
  have hSD : (Builtin.unsafeSliceData_ #[106] 138 #[.slice (some ⟨k, 0, none⟩) l.length cap]).run Try.prog w.drew = .ok (.pointer (some ⟨k, 0, none⟩)) w.drew :=
    Lib.run_unsafeSliceData_row _ _ _ _ _ _ (by omega)
  have hUS : (Builtin.unsafeString_ #[138, 3] 9 #[.pointer (some ⟨k, 0, none⟩), .int .i64 l.length]).run Try.prog w.drew = .ok (.string ⟨l.toArray⟩) (w.drew.freeze ⟨k, 0, none⟩ l.length) := by
    refine Lib.run_unsafeString_row w.drew 138 3 9 5 Try.underlying138 (by kernel_rfl) k cur.size (by have hg' : w.drew.heap[k]? = some (.cells cur 5 (0, 0)) := hg; simp [World.shape?, hg']) l h0 (by omega) (by unfold maxLen at hcm; omega) ?_
    intro j x hx
    have := hown.cells (g := k) rfl j (.int .u8 x.toNat) (by simp [Lib.byteCells, hx])
    exact this
  have mixed : Try.prog.follows .mixedOrders = true := by kernel_rfl
  clear h hbk hown
  go_enter Try.func83, Try.ntmps83
  go_wp2
  go_region_o
  all_goals (go_wp2; go_ret; exact ⟨rfl, Lib.below_freeze (Below.drew (Below.refl B w)) (p := ⟨k, 0, none⟩) hbg _⟩)
end Go.Proofs.Ytndgollcganhmaa
namespace Go.Proofs.Ytndgollcganhmaa
open Go.RowKit
def u8 (x : Int) : UInt8 := UInt8.ofNat (x % 256).toNat
theorem u8_toNat (x : Int) : ((u8 x).toNat : Int) = x % 256 := by
  unfold u8
  rw [UInt8.toNat_ofNat']
  omega
def Bts (W : World) (g : Nat) (t : TypeId) (l : List UInt8) : Prop := W.heap[g]? = some (.cells (Lib.byteCells l).toArray t (0, 0))
section
variable {P : Program} {ops : Array Oper} {rest : List Oper} {o : Oper} {a : Act} {Q : Exit → Act → World → Prop} {w w0 : World} {g : Nat} {t : TypeId} {l : List UInt8}
theorem Bts.cell (h : Bts w g t l) {j : Nat} (hj : j < l.length) : w.cell? ⟨g, j, none⟩ = some (.int .u8 (l[j]).toNat) :=
  blk_cell h (by simp [Lib.byteCells, hj])
theorem Bts.drew (h : Bts w g t l) : Bts w.drew g t l := h
theorem Bts.below {W' : World} (h : Bts w g t l) (hb : Below w.heap.size w W') : Bts W' g t l := blk_below hb (blk_lt h) h
theorem Bts.lt (h : Bts w g t l) : g < w.heap.size := blk_lt h
end
end Go.Proofs.Ytndgollcganhmaa
namespace Go.Proofs.Ytndgollcganhmaa
open Go.RowKit
def textB (s : ByteArray) : List UInt8 := u8 s.size :: s.data.toList
def labT2 (x : Lab) : List UInt8 := textB x.name ++ textB x.value
def labsW (xs : List Lab) : List UInt8 := u8 xs.length :: xs.flatMap labT2
def matT2 (m : Mat) : List UInt8 := u8 m.kind :: (textB m.name ++ textB m.value)
def matsW (ms : List Mat) : List UInt8 := u8 ms.length :: ms.flatMap matT2
def sixB (t : Int) : List UInt8 := [u8 (t / 1099511627776), u8 (t / 4294967296), u8 (t / 16777216), u8 (t / 65536), u8 (t / 256), u8 t]
theorem textB_len (s : ByteArray) : (textB s).length = s.size + 1 := by simp [textB, len_data]
theorem sixB_len (t : Int) : (sixB t).length = 6 := rfl
theorem flat_le {α : Type} (f : α → List UInt8) (b : Nat) : ∀ xs : List α, (∀ x ∈ xs, (f x).length ≤ b) → (xs.flatMap f).length ≤ xs.length * b
  | [], _ => by simp
  | x :: xs, h => by
    have h1 := h x (by simp)
    have h2 := flat_le f b xs fun y hy => h y (by simp [hy])
    rw [List.flatMap_cons, List.length_append, List.length_cons, Nat.succ_mul]
    omega
end Go.Proofs.Ytndgollcganhmaa
namespace Go.Proofs.Ytndgollcganhmaa
open Go.RowKit
theorem bt_out : BT 110 := ⟨by kernel_rfl, by decide⟩
def BQ (B g : Nat) (l : List UInt8) (w w' : World) : Prop := IB 110 B g l w' ∧ Below B w w' ∧ Lib.OthersKept 5 (some g) w w'
theorem BQ.of {B g : Nat} {l : List UInt8} {w w' : World} (h : BP 110 B g l w w') : BQ B g l w w' := ⟨.inr h.1, h.2.1, h.2.2⟩
theorem BQ.trans {B g : Nat} {l m : List UInt8} {w w1 w2 : World} (h : BQ B g l w w1) (k : BQ B g m w1 w2) : BQ B g m w w2 := ⟨k.1, h.2.1.trans k.2.1, h.2.2.trans k.2.2⟩
theorem BQ.here {B g : Nat} {l : List UInt8} {w : World} (h : IB 110 B g l w) : BQ B g l w w := ⟨h, Below.refl _ _, Lib.OthersKept.refl _ _ _⟩
theorem IB.lt {T : TypeId} {B g : Nat} {l : List UInt8} {w : World} (h : IB T B g l w) : g < w.heap.size := by
  rcases h with h | h <;> exact Lib.BuilderAt.lt h
theorem IB.alloc {T : TypeId} {B g : Nat} {l : List UInt8} {w : World} (h : IB T B g l w) (o : Obj) : IB T B g l (w.alloc o) := by
  have key : ∀ p, BA T B g p l w → BA T B g p l (w.alloc o) := by
    rintro p ⟨hB, v, hb, hown, hne⟩
    exact ⟨hB, v, (Below.heap_alloc w o g (blk_lt hb)).trans hb, hown.alloc _, hne⟩
  rcases h with h | h
  · exact .inl (key _ h)
  · exact .inr (key _ h)
theorem BQ.alloc {B g : Nat} {l : List UInt8} {w w1 : World} (h : BQ B g l w w1) (hB : B ≤ w.heap.size) (o : Obj) : BQ B g l w (w1.alloc o) :=
  ⟨h.1.alloc o, h.2.1.alloc (Nat.le_trans hB h.2.1.size) o, h.2.2.alloc o⟩
theorem BQ.stay {B g : Nat} {l : List UInt8} {w w' : World} (h : BQ B g l w w') {b : Nat} {cs : Array Value} {T : TypeId} {fr : Nat × Nat} (hb : w.heap[b]? = some (.cells cs T fr)) (hne : b ≠ g) (hT : T ≠ 5) : w'.heap[b]? = some (.cells cs T fr) :=
  h.2.2 b _ hb (fun e => hne (Option.some.inj e)) (fun c fz e => hT (by injection e))
theorem u8_mod (x : Int) : u8 (x % 256) = u8 x := by unfold u8; rw [Int.emod_emod_of_dvd _ (by decide)]
theorem and255 (x : Int) (h0 : 0 ≤ x) (h1 : x < 4611686018427387904) : bits .and .i64 x 255 = x % 256 :=
  bits_mask .i64 62 (by decide) (fun n a b => by rw [show (2 : Int) ^ 62 = 4611686018427387904 by decide] at b; rw [IntKind.wrap_i64]; omega) 8 (by decide) x h0 h1
def ints (ns : List Int) : List Value := ns.map fun n => .int .i64 n
set_option maxHeartbeats 2000000 in
theorem numbers_any (B g b : Nat) (l : List UInt8) (ns : List Int) (w : World) (h : IB 110 B g l w) (hBw : B ≤ w.heap.size) (hlen : l.length + ns.length ≤ 1000000) (hb : w.heap[b]? = some (.cells (ints ns).toArray 3 (0, 0))) (hne : b ≠ g) :
    Calls Try.prog 79 #[.pointer (some ⟨g, 0, none⟩), .slice (some ⟨b, 0, none⟩) ns.length ns.length] w fun e w' => e = .returned (.tuple #[]) ∧ BQ B g (l ++ ns.map u8) w w' := by
  have HH := Lib.hid h
  have HB := Lib.hid hb
  clear h hb
  go_enter Try.func79, Try.ntmps79
  go_wp2
  go_loopw [8] (fun i wr => ∃ k : Nat, k ≤ ns.length ∧ i = .int .i64 k ∧ Hid (BQ B g (l ++ (ns.take k).map u8) w wr)) (fun i _ => ns.length - (intOf i).toNat)
  case atStart => exact ⟨0, Nat.zero_le _, rfl, Lib.hid (by simpa using BQ.here HH.out)⟩
  case round =>
    obtain ⟨k, hk, rfl, HR⟩ := hrel
    by_cases hlt : k < ns.length
    · have hcell : wr.cell? ⟨b, k, none⟩ = some (.int .i64 ns[k]) := blk_cell (HR.out.stay HB.out hne (by decide)) (by simp [ints, hlt])
      have hu := u8_toNat ns[k]
      have HW := Lib.hid (writeByte_any _ bt_out B g (l ++ (ns.take k).map u8) (u8 ns[k]) wr HR.out.1 (by rw [List.length_append, List.length_map, List.length_take]; omega) (Nat.le_trans hBw HR.out.2.1.size))
      rw [hu] at HW
      clear hu
      go_wp2_with fail
      refine HW.out.mono ?_
      rintro e w2 ⟨rfl, hq⟩
      have HQ := Lib.hid (HR.out.trans (BQ.of hq))
      clear hq hcell
      go_wp2_with fail
      refine ⟨⟨k + 1, by omega, by go_num, Lib.hid ?_⟩, by simp [intOf]; omega⟩
      rw [List.take_succ_eq_append_getElem hlt, List.map_append, ← List.append_assoc]
      exact HQ.out
    · obtain rfl : k = ns.length := by omega
      go_wp2
      go_end0
      refine ⟨rfl, ?_⟩
      have := HR.out
      rwa [List.take_length] at this
set_option maxHeartbeats 2000000 in
theorem time_any (B g : Nat) (l : List UInt8) (t : Int) (w : World) (h : IB 110 B g l w) (hBw : B ≤ w.heap.size) (hlen : l.length + 6 ≤ 100000) (h0 : 0 ≤ t) (h1 : t ≤ 1099511627776) :
    Calls Try.prog 80 #[.pointer (some ⟨g, 0, none⟩), .int .i64 t] w fun e w' => e = .returned (.tuple #[]) ∧ BQ B g (l ++ sixB t) w w' := by
  have HH := Lib.hid h
  clear h
  go_enter Try.func80, Try.ntmps80
  go_wp2
  go_loopw [5] (fun i wr => ∃ k : Nat, k ≤ 6 ∧ i = .int .i64 k ∧ Hid (BQ B g (l ++ (sixB t).take k) w wr)) (fun i _ => 6 - (intOf i).toNat)
  case atStart => exact ⟨0, by omega, rfl, Lib.hid (by simpa using BQ.here HH.out)⟩
  case round =>
    obtain ⟨k, hk, rfl, HR⟩ := hrel
    by_cases hlt : k < 6
    · obtain rfl | rfl | rfl | rfl | rfl | rfl : k = 0 ∨ k = 1 ∨ k = 2 ∨ k = 3 ∨ k = 4 ∨ k = 5 := by omega
      · go_wp2_with fail
        rw [and255 (t / 1099511627776) (by omega) (by omega)]
        have HN := Lib.hid (numbers_any B g wr.heap.size (l ++ (sixB t).take 0) [t / 1099511627776 % 256] _ (HR.out.1.alloc _) (by have := HR.out.2.1.size; rw [size_alloc]; omega) (by rw [List.length_append, List.length_take, List.length_singleton]; omega) (blk_new wr _) (by have := HR.out.1.lt; omega))
        refine HN.out.mono ?_
        rintro e w2 ⟨rfl, hq⟩
        have HQ := Lib.hid ((HR.out.alloc hBw _).trans hq)
        clear hq HR HN
        go_wp2_with fail
        refine ⟨⟨1, by omega, by go_num, Lib.hid ?_⟩, by simp [intOf]⟩
        have hQ := HQ.out
        rw [List.append_assoc, show (sixB t).take 0 ++ List.map Go.Proofs.Ytndgollcganhmaa.u8 [t / 1099511627776 % 256] = (sixB t).take 1 by simp [sixB, u8_mod]] at hQ
        exact hQ
      · go_wp2_with fail
        rw [and255 (t / 4294967296) (by omega) (by omega)]
        have HN := Lib.hid (numbers_any B g wr.heap.size (l ++ (sixB t).take 1) [t / 4294967296 % 256] _ (HR.out.1.alloc _) (by have := HR.out.2.1.size; rw [size_alloc]; omega) (by rw [List.length_append, List.length_take, List.length_singleton]; omega) (blk_new wr _) (by have := HR.out.1.lt; omega))
        refine HN.out.mono ?_
        rintro e w2 ⟨rfl, hq⟩
        have HQ := Lib.hid ((HR.out.alloc hBw _).trans hq)
        clear hq HR HN
        go_wp2_with fail
        refine ⟨⟨2, by omega, by go_num, Lib.hid ?_⟩, by simp [intOf]⟩
        have hQ := HQ.out
        rw [List.append_assoc, show (sixB t).take 1 ++ List.map Go.Proofs.Ytndgollcganhmaa.u8 [t / 4294967296 % 256] = (sixB t).take 2 by simp [sixB, u8_mod]] at hQ
        exact hQ
      · go_wp2_with fail
        rw [and255 (t / 16777216) (by omega) (by omega)]
        have HN := Lib.hid (numbers_any B g wr.heap.size (l ++ (sixB t).take 2) [t / 16777216 % 256] _ (HR.out.1.alloc _) (by have := HR.out.2.1.size; rw [size_alloc]; omega) (by rw [List.length_append, List.length_take, List.length_singleton]; omega) (blk_new wr _) (by have := HR.out.1.lt; omega))
        refine HN.out.mono ?_
        rintro e w2 ⟨rfl, hq⟩
        have HQ := Lib.hid ((HR.out.alloc hBw _).trans hq)
        clear hq HR HN
        go_wp2_with fail
        refine ⟨⟨3, by omega, by go_num, Lib.hid ?_⟩, by simp [intOf]⟩
        have hQ := HQ.out
        rw [List.append_assoc, show (sixB t).take 2 ++ List.map Go.Proofs.Ytndgollcganhmaa.u8 [t / 16777216 % 256] = (sixB t).take 3 by simp [sixB, u8_mod]] at hQ
        exact hQ
      · go_wp2_with fail
        rw [and255 (t / 65536) (by omega) (by omega)]
        have HN := Lib.hid (numbers_any B g wr.heap.size (l ++ (sixB t).take 3) [t / 65536 % 256] _ (HR.out.1.alloc _) (by have := HR.out.2.1.size; rw [size_alloc]; omega) (by rw [List.length_append, List.length_take, List.length_singleton]; omega) (blk_new wr _) (by have := HR.out.1.lt; omega))
        refine HN.out.mono ?_
        rintro e w2 ⟨rfl, hq⟩
        have HQ := Lib.hid ((HR.out.alloc hBw _).trans hq)
        clear hq HR HN
        go_wp2_with fail
        refine ⟨⟨4, by omega, by go_num, Lib.hid ?_⟩, by simp [intOf]⟩
        have hQ := HQ.out
        rw [List.append_assoc, show (sixB t).take 3 ++ List.map Go.Proofs.Ytndgollcganhmaa.u8 [t / 65536 % 256] = (sixB t).take 4 by simp [sixB, u8_mod]] at hQ
        exact hQ
      · go_wp2_with fail
        rw [and255 (t / 256) (by omega) (by omega)]
        have HN := Lib.hid (numbers_any B g wr.heap.size (l ++ (sixB t).take 4) [t / 256 % 256] _ (HR.out.1.alloc _) (by have := HR.out.2.1.size; rw [size_alloc]; omega) (by rw [List.length_append, List.length_take, List.length_singleton]; omega) (blk_new wr _) (by have := HR.out.1.lt; omega))
        refine HN.out.mono ?_
        rintro e w2 ⟨rfl, hq⟩
        have HQ := Lib.hid ((HR.out.alloc hBw _).trans hq)
        clear hq HR HN
        go_wp2_with fail
        refine ⟨⟨5, by omega, by go_num, Lib.hid ?_⟩, by simp [intOf]⟩
        have hQ := HQ.out
        rw [List.append_assoc, show (sixB t).take 4 ++ List.map Go.Proofs.Ytndgollcganhmaa.u8 [t / 256 % 256] = (sixB t).take 5 by simp [sixB, u8_mod]] at hQ
        exact hQ
      · go_wp2_with fail
        rw [and255 (t) (by omega) (by omega)]
        have HN := Lib.hid (numbers_any B g wr.heap.size (l ++ (sixB t).take 5) [t % 256] _ (HR.out.1.alloc _) (by have := HR.out.2.1.size; rw [size_alloc]; omega) (by rw [List.length_append, List.length_take, List.length_singleton]; omega) (blk_new wr _) (by have := HR.out.1.lt; omega))
        refine HN.out.mono ?_
        rintro e w2 ⟨rfl, hq⟩
        have HQ := Lib.hid ((HR.out.alloc hBw _).trans hq)
        clear hq HR HN
        go_wp2_with fail
        refine ⟨⟨6, by omega, by go_num, Lib.hid ?_⟩, by simp [intOf]⟩
        have hQ := HQ.out
        rw [List.append_assoc, show (sixB t).take 5 ++ List.map Go.Proofs.Ytndgollcganhmaa.u8 [t % 256] = (sixB t).take 6 by simp [sixB, u8_mod]] at hQ
        exact hQ
    · obtain rfl : k = 6 := by omega
      go_wp2
      go_end0
      refine ⟨rfl, ?_⟩
      have := HR.out
      rwa [List.take_of_length_le (by rw [sixB_len]; omega)] at this
set_option maxHeartbeats 2000000 in
theorem text_any (B g : Nat) (l : List UInt8) (s : ByteArray) (w : World) (h : IB 110 B g l w) (hBw : B ≤ w.heap.size) (hlen : l.length ≤ 900000) (hs : s.size ≤ 100000) :
    Calls Try.prog 82 #[.pointer (some ⟨g, 0, none⟩), .string s] w fun e w' => e = .returned (.tuple #[]) ∧ BQ B g (l ++ textB s) w w' := by
  have HH := Lib.hid h
  clear h
  go_enter Try.func82, Try.ntmps82
  have HN := Lib.hid (numbers_any B g w.heap.size l [(s.size : Int)] _ (HH.out.alloc _) (by rw [size_alloc]; omega) (by rw [List.length_singleton]; omega) (blk_new w _) (by have := HH.out.lt; omega))
  go_wp2_with fail
  refine HN.out.mono ?_
  rintro e w2 ⟨rfl, hq⟩
  have HQ := Lib.hid ((BQ.alloc (BQ.here HH.out) hBw _).trans hq)
  clear hq HN
  have HW := Lib.hid (writeString_any _ bt_out B g _ s w2 HQ.out.1 (by rw [List.length_append, List.length_map, List.length_singleton]; omega) (Nat.le_trans hBw HQ.out.2.1.size))
  go_wp2_with fail
  refine HW.out.mono ?_
  rintro e w3 ⟨rfl, hq⟩
  have HR := Lib.hid (HQ.out.trans (BQ.of hq))
  clear hq HW HQ
  go_wp2_with fail
  go_end0
  refine ⟨rfl, ?_⟩
  have hR := HR.out
  rw [List.append_assoc] at hR
  exact hR
set_option maxHeartbeats 2000000 in
theorem labels_any (W : World) (g : Nat) (l : List UInt8) (v : Value) (xs : List Lab) (w : World) (h : IB 110 W.heap.size g l w) (hBw : Below W.heap.size W w) (hS : SlAt W v 2 xs.length (labsC xs)) (hlen : l.length ≤ 100000) (hx : xs.length ≤ 100)
    (hs : ∀ x ∈ xs, x.name.size ≤ 1000 ∧ x.value.size ≤ 1000) :
    Calls Try.prog 81 #[.pointer (some ⟨g, 0, none⟩), v] w fun e w' => e = .returned (.tuple #[]) ∧ BQ W.heap.size g (l ++ labsW xs) w w' := by
  obtain ⟨a, c, rfl, hnc, hcm⟩ := hS.form
  unfold maxLen at hcm
  have HH := Lib.hid h
  have HS := Lib.hid hS
  have HB := Lib.hid hBw
  have hW := hBw.size
  clear h hS hBw
  go_enter Try.func81, Try.ntmps81
  have HN := Lib.hid (numbers_any W.heap.size g w.heap.size l [(xs.length : Int)] _ (HH.out.alloc _) (by rw [size_alloc]; omega) (by rw [List.length_singleton]; omega) (blk_new w _) (by have := HH.out.lt; omega))
  go_wp2_with fail
  refine HN.out.mono ?_
  rintro e w2 ⟨rfl, hq⟩
  have HQ := Lib.hid ((BQ.alloc (BQ.here HH.out) hW _).trans hq)
  clear hq HN
  go_wp2_with fail
  go_loopw [13] (fun i wr => ∃ k : Nat, k ≤ xs.length ∧ i = .int .i64 k ∧ Hid (BQ W.heap.size g (l ++ (u8 xs.length :: (xs.take k).flatMap labT2)) w wr)) (fun i _ => xs.length - (intOf i).toNat)
  case atStart => exact ⟨0, Nat.zero_le _, rfl, Lib.hid (by simpa using HQ.out)⟩
  case round =>
    obtain ⟨k, hk, rfl, HR⟩ := hrel
    clear HQ
    by_cases hlt : k < xs.length
    · obtain ⟨b, o, rfl, hbo, hcells⟩ := HS.out.at (by omega)
      have hg := labs_get xs k hlt
      have hbR := HB.out.trans HR.out.2.1
      have c0 : wr.cell? ⟨b, o + k * 2, none⟩ = some (.string xs[k].name) := (hbR.cell (p := ⟨b, o + k * 2, none⟩) hbo).trans (hcells _ _ hg.1)
      have c1 : wr.cell? ⟨b, o + k * 2 + 1, none⟩ = some (.string xs[k].value) := (hbR.cell (p := ⟨b, o + k * 2 + 1, none⟩) hbo).trans (hcells _ _ hg.2)
      have hWr := hbR.size
      have hsx := hs xs[k] (List.getElem_mem hlt)
      have hll : (l ++ (u8 xs.length :: (xs.take k).flatMap labT2)).length ≤ 400000 := by
        have := flat_le labT2 2002 (xs.take k) (fun x hx => by have := hs x (List.mem_of_mem_take hx); simp only [labT2, List.length_append, textB_len]; omega)
        have h2 : (xs.take k).length ≤ 100 := by rw [List.length_take]; omega
        have h3 := Nat.mul_le_mul_right 2002 h2
        rw [List.length_append, List.length_cons]
        omega
      have hgl := HR.out.1.lt
      have HT := Lib.hid (text_any W.heap.size g _ xs[k].name _ (HR.out.1.alloc (.cells #[.string xs[k].name, .string xs[k].value] 41)) (by rw [size_alloc]; omega) (by omega) (by omega))
      go_wp2_with fail
      refine HT.out.mono ?_
      rintro e w3 ⟨rfl, hq⟩
      have hb3 := BQ.stay hq (blk_new wr _) (by omega) (by decide)
      have d1 : w3.cell? ⟨wr.heap.size, 1, none⟩ = some (.string xs[k].value) := blk_cell hb3 rfl
      have HQ3 := Lib.hid ((HR.out.alloc hW _).trans hq)
      clear HT hq hb3
      have HT := Lib.hid (text_any W.heap.size g _ xs[k].value w3 HQ3.out.1 (Nat.le_trans hW HQ3.out.2.1.size) (by rw [List.length_append, textB_len]; omega) (by omega))
      go_wp2_with fail
      refine HT.out.mono ?_
      rintro e w4 ⟨rfl, hq⟩
      have HQ4 := Lib.hid (HQ3.out.trans hq)
      clear HT hq HQ3
      go_wp2_with fail
      refine ⟨⟨k + 1, by omega, by go_num, Lib.hid ?_⟩, by simp [intOf]; omega⟩
      have hQ := HQ4.out
      rw [List.take_succ_eq_append_getElem hlt, List.flatMap_append]
      simpa [labT2, List.append_assoc] using hQ
    · obtain rfl : k = xs.length := by omega
      go_wp2
      go_end0
      refine ⟨rfl, ?_⟩
      have := HR.out
      rwa [List.take_length] at this
end Go.Proofs.Ytndgollcganhmaa
namespace Go.Proofs.Ytndgollcganhmaa
open Go.RowKit
attribute [local go_sem high] ext_size ext_cell ext_frozen alloc_cell alloc_frozen
theorem ib_fresh {T : TypeId} {B : Nat} (w : World) (hB : B ≤ w.heap.size) : IB T B w.heap.size [] (w.alloc (.cells #[.pointer none, .slice none 0 0] T)) :=
  .inl ⟨hB, .slice none 0 0, blk_new w _, World.ownsRow_nil _ _ _ _, by simp [Value.ownBlock]⟩
def recC (k : Int) (v1 : Value) (rt pl tr due st : Int) (v7 : Value) (fr to_ : Int) (v10 : Value) : Array Value := #[.int .i64 k, v1, .int .i64 rt, .int .i64 pl, .int .i64 tr, .int .i64 due, .int .i64 st, v7, .int .i64 fr, .int .i64 to_, v10]
def dutyW (rt pl tr due st : Int) (xs : List Lab) : List UInt8 := u8 1 :: ([u8 rt, u8 pl, u8 tr, u8 st] ++ (sixB due ++ labsW xs))
def goneW (xs : List Lab) : List UInt8 := u8 2 :: labsW xs
def hushW (k fr to_ : Int) (ms : List Mat) : List UInt8 := u8 k :: (sixB fr ++ (sixB to_ ++ matsW ms))
section
variable (A1 A7 A10 : Option Addr) (n1 n7 n10 c1 c7 c10 : Nat) (rt pl tr due st fr to_ : Int)
set_option maxHeartbeats 4000000 in
theorem put1_any (xs : List Lab) (w : World) (hS : SlAt w (.slice A1 xs.length c1) 2 xs.length (labsC xs)) (hx : xs.length ≤ 100) (hs : ∀ x ∈ xs, x.name.size ≤ 1000 ∧ x.value.size ≤ 1000) (h0 : 0 ≤ due) (h1 : due ≤ 1099511627776) :
    Calls Try.prog 48 #[.agg (recC 1 (.slice A1 xs.length c1) rt pl tr due st (.slice A7 n7 c7) fr to_ (.slice A10 n10 c10))] w fun e w' => e = .returned (.string ⟨(dutyW rt pl tr due st xs).toArray⟩) ∧ Below w.heap.size w w' := by
  have HS := Lib.hid hS
  clear hS
  have hfr := BQ.here (ib_fresh (T := 110) (w.alloc (.cells (recC 1 (.slice A1 xs.length c1) rt pl tr due st (.slice A7 n7 c7) fr to_ (.slice A10 n10 c10)) 50)) (B := w.heap.size) (by rw [size_alloc]; omega))
  rw [size_alloc] at hfr
  have hbx : ((w.alloc (.cells (recC 1 (.slice A1 xs.length c1) rt pl tr due st (.slice A7 n7 c7) fr to_ (.slice A10 n10 c10)) 50)).alloc (.cells #[.pointer none, .slice none 0 0] 110)).heap[w.heap.size]? = some (.cells (recC 1 (.slice A1 xs.length c1) rt pl tr due st (.slice A7 n7 c7) fr to_ (.slice A10 n10 c10)) 50 (0, 0)) := blk_new1 w _ _
  have hbw : Below w.heap.size w ((w.alloc (.cells (recC 1 (.slice A1 xs.length c1) rt pl tr due st (.slice A7 n7 c7) fr to_ (.slice A10 n10 c10)) 50)).alloc (.cells #[.pointer none, .slice none 0 0] 110)) := bal (bal (Below.refl _ _) _) _
  unfold recC at *
  have HF := Lib.hid hfr
  have HX := Lib.hid hbx
  have HW := Lib.hid hbw
  clear hfr hbx hbw
  go_enter Try.func48, Try.ntmps48
  have HN := Lib.hid (numbers_any w.heap.size (w.heap.size + 1) (w.heap.size + 1 + 1) [] [1] _ (HF.out.1.alloc (.cells #[.int .i64 1] 3)) (by simp only [size_alloc]; omega) (by simp) (by have := blk_new ((w.alloc (.cells #[.int .i64 1, (.slice A1 xs.length c1), .int .i64 rt, .int .i64 pl, .int .i64 tr, .int .i64 due, .int .i64 st, (.slice A7 n7 c7), .int .i64 fr, .int .i64 to_, (.slice A10 n10 c10)] 50)).alloc (.cells #[.pointer none, .slice none 0 0] 110)) (.cells #[.int .i64 1] 3); simp only [size_alloc] at this; exact this) (by omega))
  go_wp2_with fail
  refine HN.out.mono ?_
  rintro e w2 ⟨rfl, hq⟩
  have HQ := Lib.hid ((HF.out.alloc (by simp only [size_alloc]; omega) _).trans hq)
  clear hq HN HF
  have hz := HQ.out.2.1.size
  simp only [size_alloc] at hz
  have hc := HQ.out.stay HX.out (by omega) (by decide)
  have d0 := blk_cell hc (j := 0) rfl
  have d1 := blk_cell hc (j := 1) rfl
  have d2 := blk_cell hc (j := 2) rfl
  have d3 := blk_cell hc (j := 3) rfl
  have d4 := blk_cell hc (j := 4) rfl
  have d5 := blk_cell hc (j := 5) rfl
  have d6 := blk_cell hc (j := 6) rfl
  have d7 := blk_cell hc (j := 7) rfl
  have d8 := blk_cell hc (j := 8) rfl
  have d9 := blk_cell hc (j := 9) rfl
  have d10 := blk_cell hc (j := 10) rfl
  clear hc
  obtain ⟨D, hD⟩ : ∃ D, D = (Obj.cells #[.slice A1 xs.length c1, .int .i64 rt, .int .i64 pl, .int .i64 tr, .int .i64 due, .int .i64 st] 46) := ⟨_, rfl⟩
  have hbD := blk_new1 w2 (Obj.cells #[.slice A1 xs.length c1, .int .i64 rt, .int .i64 pl, .int .i64 tr, .int .i64 due, .int .i64 st] 46) (Obj.cells #[.int .i64 rt, .int .i64 pl, .int .i64 tr, .int .i64 st] 3)
  have HN := Lib.hid (numbers_any w.heap.size (w.heap.size + 1) (w2.heap.size + 1) _ [rt, pl, tr, st] _ ((HQ.out.1.alloc (.cells #[.slice A1 xs.length c1, .int .i64 rt, .int .i64 pl, .int .i64 tr, .int .i64 due, .int .i64 st] 46)).alloc (.cells #[.int .i64 rt, .int .i64 pl, .int .i64 tr, .int .i64 st] 3)) (by simp only [size_alloc]; omega) (by simp) (by have := blk_new (w2.alloc (.cells #[.slice A1 xs.length c1, .int .i64 rt, .int .i64 pl, .int .i64 tr, .int .i64 due, .int .i64 st] 46)) (.cells #[.int .i64 rt, .int .i64 pl, .int .i64 tr, .int .i64 st] 3); simp only [size_alloc] at this; exact this) (by omega))
  go_wp2_with fail
  refine HN.out.mono ?_
  rintro e w3 ⟨rfl, hq⟩
  have hc := hq.stay hbD (by omega) (by decide)
  have e0 := blk_cell hc (j := 0) rfl
  have e4 := blk_cell hc (j := 4) rfl
  have HQ3 := Lib.hid (((HQ.out.alloc (by simp only [size_alloc]; omega) _).alloc (by simp only [size_alloc]; omega) _).trans hq)
  have HY := Lib.hid hc
  clear hq HN HQ hc hbD d0 d1 d2 d3 d4 d5 d6 d7 d8 d9 d10 hD
  have hz3 := HQ3.out.2.1.size
  simp only [size_alloc] at hz3
  have HN := Lib.hid (time_any w.heap.size (w.heap.size + 1) _ due w3 HQ3.out.1 (by omega) (by simp) h0 h1)
  go_wp2_with fail
  refine HN.out.mono ?_
  rintro e w4 ⟨rfl, hq⟩
  have hc := hq.stay HY.out (by omega) (by decide)
  have f0 := blk_cell hc (j := 0) rfl
  have HQ4 := Lib.hid (HQ3.out.trans hq)
  clear hq HN HQ3 hc e0 e4
  have hz4 := HQ4.out.2.1.size
  simp only [size_alloc] at hz4
  have HN := Lib.hid (labels_any w (w.heap.size + 1) _ _ xs w4 HQ4.out.1 (HW.out.trans HQ4.out.2.1) HS.out (by simp [sixB_len]) hx hs)
  go_wp2_with fail
  refine HN.out.mono ?_
  rintro e w5 ⟨rfl, hq⟩
  have HQ5 := Lib.hid (HQ4.out.trans hq)
  clear hq HN HQ4 f0
  have HN := Lib.hid (bString_any _ w.heap.size (w.heap.size + 1) _ w5 HQ5.out.1 (by simp))
  go_wp2_with fail
  refine HN.out.mono ?_
  rintro e w6 ⟨rfl, hq⟩
  go_wp2_with fail
  go_ret
  exact ⟨by simp [dutyW], (HW.out.trans HQ5.out.2.1).trans hq⟩
set_option maxHeartbeats 4000000 in
theorem put2_any (xs : List Lab) (w : World) (hS : SlAt w (.slice A7 xs.length c7) 2 xs.length (labsC xs)) (hx : xs.length ≤ 100) (hs : ∀ x ∈ xs, x.name.size ≤ 1000 ∧ x.value.size ≤ 1000) :
    Calls Try.prog 48 #[.agg (recC 2 (.slice A1 n1 c1) rt pl tr due st (.slice A7 xs.length c7) fr to_ (.slice A10 n10 c10))] w fun e w' => e = .returned (.string ⟨(goneW xs).toArray⟩) ∧ Below w.heap.size w w' := by
  have HS := Lib.hid hS
  clear hS
  have hfr := BQ.here (ib_fresh (T := 110) (w.alloc (.cells (recC 2 (.slice A1 n1 c1) rt pl tr due st (.slice A7 xs.length c7) fr to_ (.slice A10 n10 c10)) 50)) (B := w.heap.size) (by rw [size_alloc]; omega))
  rw [size_alloc] at hfr
  have hbx : ((w.alloc (.cells (recC 2 (.slice A1 n1 c1) rt pl tr due st (.slice A7 xs.length c7) fr to_ (.slice A10 n10 c10)) 50)).alloc (.cells #[.pointer none, .slice none 0 0] 110)).heap[w.heap.size]? = some (.cells (recC 2 (.slice A1 n1 c1) rt pl tr due st (.slice A7 xs.length c7) fr to_ (.slice A10 n10 c10)) 50 (0, 0)) := blk_new1 w _ _
  have hbw : Below w.heap.size w ((w.alloc (.cells (recC 2 (.slice A1 n1 c1) rt pl tr due st (.slice A7 xs.length c7) fr to_ (.slice A10 n10 c10)) 50)).alloc (.cells #[.pointer none, .slice none 0 0] 110)) := bal (bal (Below.refl _ _) _) _
  unfold recC at *
  have HF := Lib.hid hfr
  have HX := Lib.hid hbx
  have HW := Lib.hid hbw
  clear hfr hbx hbw
  go_enter Try.func48, Try.ntmps48
  have HN := Lib.hid (numbers_any w.heap.size (w.heap.size + 1) (w.heap.size + 1 + 1) [] [2] _ (HF.out.1.alloc (.cells #[.int .i64 2] 3)) (by simp only [size_alloc]; omega) (by simp) (by have := blk_new ((w.alloc (.cells #[.int .i64 2, (.slice A1 n1 c1), .int .i64 rt, .int .i64 pl, .int .i64 tr, .int .i64 due, .int .i64 st, (.slice A7 xs.length c7), .int .i64 fr, .int .i64 to_, (.slice A10 n10 c10)] 50)).alloc (.cells #[.pointer none, .slice none 0 0] 110)) (.cells #[.int .i64 2] 3); simp only [size_alloc] at this; exact this) (by omega))
  go_wp2_with fail
  refine HN.out.mono ?_
  rintro e w2 ⟨rfl, hq⟩
  have HQ := Lib.hid ((HF.out.alloc (by simp only [size_alloc]; omega) _).trans hq)
  clear hq HN HF
  have hz := HQ.out.2.1.size
  simp only [size_alloc] at hz
  have hc := HQ.out.stay HX.out (by omega) (by decide)
  have d0 := blk_cell hc (j := 0) rfl
  have d1 := blk_cell hc (j := 1) rfl
  have d2 := blk_cell hc (j := 2) rfl
  have d3 := blk_cell hc (j := 3) rfl
  have d4 := blk_cell hc (j := 4) rfl
  have d5 := blk_cell hc (j := 5) rfl
  have d6 := blk_cell hc (j := 6) rfl
  have d7 := blk_cell hc (j := 7) rfl
  have d8 := blk_cell hc (j := 8) rfl
  have d9 := blk_cell hc (j := 9) rfl
  have d10 := blk_cell hc (j := 10) rfl
  clear hc
  have HN := Lib.hid (labels_any w (w.heap.size + 1) _ _ xs w2 HQ.out.1 (HW.out.trans HQ.out.2.1) HS.out (by simp) hx hs)
  go_wp2_with fail
  refine HN.out.mono ?_
  rintro e w5 ⟨rfl, hq⟩
  have HQ5 := Lib.hid (HQ.out.trans hq)
  clear hq HN HQ
  have HN := Lib.hid (bString_any _ w.heap.size (w.heap.size + 1) _ w5 HQ5.out.1 (by simp))
  go_wp2_with fail
  refine HN.out.mono ?_
  rintro e w6 ⟨rfl, hq⟩
  go_wp2_with fail
  go_ret
  exact ⟨by simp [goneW], (HW.out.trans HQ5.out.2.1).trans hq⟩
set_option maxHeartbeats 4000000 in
theorem put3_any (k : Int) (ms : List Mat) (w : World) (hk1 : k ≠ 1) (hk2 : k ≠ 2) (hS : SlAt w (.slice A10 ms.length c10) 3 ms.length (matsC ms)) (hx : ms.length ≤ 100) (hs : ∀ x ∈ ms, x.name.size ≤ 1000 ∧ x.value.size ≤ 1000) (h0 : 0 ≤ fr) (h1 : fr ≤ 1099511627776) (h2 : 0 ≤ to_) (h3 : to_ ≤ 1099511627776) :
    Calls Try.prog 48 #[.agg (recC k (.slice A1 n1 c1) rt pl tr due st (.slice A7 n7 c7) fr to_ (.slice A10 ms.length c10))] w fun e w' => e = .returned (.string ⟨(hushW k fr to_ ms).toArray⟩) ∧ Below w.heap.size w w' := by
  obtain ⟨_, _, _, _, hcm⟩ := hS.form
  have hkk1 : (k == 1) = false := by simpa using hk1
  have hkk2 : (k == 2) = false := by simpa using hk2
  unfold maxLen at hcm
  have HS := Lib.hid hS
  clear hS
  have hfr := BQ.here (ib_fresh (T := 110) (w.alloc (.cells (recC k (.slice A1 n1 c1) rt pl tr due st (.slice A7 n7 c7) fr to_ (.slice A10 ms.length c10)) 50)) (B := w.heap.size) (by rw [size_alloc]; omega))
  rw [size_alloc] at hfr
  have hbx : ((w.alloc (.cells (recC k (.slice A1 n1 c1) rt pl tr due st (.slice A7 n7 c7) fr to_ (.slice A10 ms.length c10)) 50)).alloc (.cells #[.pointer none, .slice none 0 0] 110)).heap[w.heap.size]? = some (.cells (recC k (.slice A1 n1 c1) rt pl tr due st (.slice A7 n7 c7) fr to_ (.slice A10 ms.length c10)) 50 (0, 0)) := blk_new1 w _ _
  have hbw : Below w.heap.size w ((w.alloc (.cells (recC k (.slice A1 n1 c1) rt pl tr due st (.slice A7 n7 c7) fr to_ (.slice A10 ms.length c10)) 50)).alloc (.cells #[.pointer none, .slice none 0 0] 110)) := bal (bal (Below.refl _ _) _) _
  unfold recC at *
  have HF := Lib.hid hfr
  have HX := Lib.hid hbx
  have HW := Lib.hid hbw
  clear hfr hbx hbw
  go_enter Try.func48, Try.ntmps48
  have HN := Lib.hid (numbers_any w.heap.size (w.heap.size + 1) (w.heap.size + 1 + 1) [] [k] _ (HF.out.1.alloc (.cells #[.int .i64 k] 3)) (by simp only [size_alloc]; omega) (by simp) (by have := blk_new ((w.alloc (.cells #[.int .i64 k, (.slice A1 n1 c1), .int .i64 rt, .int .i64 pl, .int .i64 tr, .int .i64 due, .int .i64 st, (.slice A7 n7 c7), .int .i64 fr, .int .i64 to_, (.slice A10 ms.length c10)] 50)).alloc (.cells #[.pointer none, .slice none 0 0] 110)) (.cells #[.int .i64 k] 3); simp only [size_alloc] at this; exact this) (by omega))
  go_wp2_with fail
  refine HN.out.mono ?_
  rintro e w2 ⟨rfl, hq⟩
  have HQ := Lib.hid ((HF.out.alloc (by simp only [size_alloc]; omega) _).trans hq)
  clear hq HN HF
  have hz := HQ.out.2.1.size
  simp only [size_alloc] at hz
  have hc := HQ.out.stay HX.out (by omega) (by decide)
  have d0 := blk_cell hc (j := 0) rfl
  have d1 := blk_cell hc (j := 1) rfl
  have d2 := blk_cell hc (j := 2) rfl
  have d3 := blk_cell hc (j := 3) rfl
  have d4 := blk_cell hc (j := 4) rfl
  have d5 := blk_cell hc (j := 5) rfl
  have d6 := blk_cell hc (j := 6) rfl
  have d7 := blk_cell hc (j := 7) rfl
  have d8 := blk_cell hc (j := 8) rfl
  have d9 := blk_cell hc (j := 9) rfl
  have d10 := blk_cell hc (j := 10) rfl
  have HY := Lib.hid hc
  clear hc
  have HN := Lib.hid (time_any w.heap.size (w.heap.size + 1) _ fr w2 HQ.out.1 (by omega) (by simp) h0 h1)
  go_wp2_with fail
  refine HN.out.mono ?_
  rintro e w3 ⟨rfl, hq⟩
  have hc := hq.stay HY.out (by omega) (by decide)
  have HQ3 := Lib.hid (HQ.out.trans hq)
  clear hq HN HQ HY d0 d1 d2 d3 d4 d5 d6 d7 d8 d9 d10
  have d8 := blk_cell hc (j := 8) rfl
  have d9 := blk_cell hc (j := 9) rfl
  have d10 := blk_cell hc (j := 10) rfl
  have HY := Lib.hid hc
  clear hc
  have hz3 := HQ3.out.2.1.size
  simp only [size_alloc] at hz3
  have HN := Lib.hid (time_any w.heap.size (w.heap.size + 1) _ to_ w3 HQ3.out.1 (by omega) (by simp [sixB_len]) h2 h3)
  go_wp2_with fail
  refine HN.out.mono ?_
  rintro e w4 ⟨rfl, hq⟩
  have hc := hq.stay HY.out (by omega) (by decide)
  have HQ4 := Lib.hid (HQ3.out.trans hq)
  clear hq HN HQ3 HY d8 d9 d10
  have d8 := blk_cell hc (j := 8) rfl
  have d9 := blk_cell hc (j := 9) rfl
  have d10 := blk_cell hc (j := 10) rfl
  have HY := Lib.hid hc
  clear hc
  have hz4 := HQ4.out.2.1.size
  simp only [size_alloc] at hz4
  have HN := Lib.hid (numbers_any w.heap.size (w.heap.size + 1) w4.heap.size _ [(ms.length : Int)] _ (HQ4.out.1.alloc (.cells #[.int .i64 ms.length] 3)) (by simp only [size_alloc]; omega) (by simp [sixB_len]) (blk_new w4 _) (by omega))
  go_wp2_with fail
  refine HN.out.mono ?_
  rintro e w5 ⟨rfl, hq⟩
  have hc := hq.stay (Lib.alloc_old w4 (.cells #[.int .i64 ms.length] 3) _ (by omega) |>.trans HY.out) (by omega) (by decide)
  have HQ5 := Lib.hid ((HQ4.out.alloc (by simp only [size_alloc]; omega) _).trans hq)
  clear hq HN HQ4 HY d8 d9 d10
  have d10 := blk_cell hc (j := 10) rfl
  clear hc
  go_wp2_with fail
  go_loopw [37] (fun i wr => ∃ q : Nat, q ≤ ms.length ∧ i = .int .i64 q ∧ Hid (BQ w.heap.size (w.heap.size + 1) (u8 k :: (sixB fr ++ (sixB to_ ++ (u8 ms.length :: (ms.take q).flatMap matT2)))) ((w.alloc (.cells #[.int .i64 k, .slice A1 n1 c1, .int .i64 rt, .int .i64 pl, .int .i64 tr, .int .i64 due, .int .i64 st, .slice A7 n7 c7, .int .i64 fr, .int .i64 to_, .slice A10 ms.length c10] 50)).alloc (.cells #[.pointer none, .slice none 0 0] 110)) wr)) (fun i _ => ms.length - (intOf i).toNat)
  case atStart => exact ⟨0, Nat.zero_le _, rfl, Lib.hid (by simpa using HQ5.out)⟩
  case round =>
    obtain ⟨q, hqn, rfl, HR⟩ := hrel
    clear HQ5
    by_cases hlt : q < ms.length
    · obtain ⟨b, o, rfl, hbo, hcells⟩ := HS.out.at (by omega)
      have hg := mats_get ms q hlt
      have hbR := HW.out.trans HR.out.2.1
      have c0 : wr.cell? ⟨b, o + q * 3, none⟩ = some (.int .i64 ms[q].kind) := (hbR.cell (p := ⟨b, o + q * 3, none⟩) hbo).trans (hcells _ _ hg.1)
      have c1 : wr.cell? ⟨b, o + q * 3 + 1, none⟩ = some (.string ms[q].name) := (hbR.cell (p := ⟨b, o + q * 3 + 1, none⟩) hbo).trans (hcells _ _ hg.2.1)
      have c2 : wr.cell? ⟨b, o + q * 3 + 2, none⟩ = some (.string ms[q].value) := (hbR.cell (p := ⟨b, o + q * 3 + 2, none⟩) hbo).trans (hcells _ _ hg.2.2)
      have hWr := hbR.size
      have hsx := hs ms[q] (List.getElem_mem hlt)
      have hll : (u8 k :: (sixB fr ++ (sixB to_ ++ (u8 ms.length :: (ms.take q).flatMap matT2)))).length ≤ 400000 := by
        have := flat_le matT2 2003 (ms.take q) (fun x hx => by have := hs x (List.mem_of_mem_take hx); simp only [matT2, List.length_append, List.length_cons, textB_len]; omega)
        have h2 : (ms.take q).length ≤ 100 := by rw [List.length_take]; omega
        have h3 := Nat.mul_le_mul_right 2003 h2
        simp only [List.length_append, List.length_cons, sixB_len]
        omega
      have hgl := HR.out.1.lt
      obtain ⟨L, hL⟩ : ∃ L, L = (u8 k :: (sixB fr ++ (sixB to_ ++ (u8 ms.length :: (ms.take q).flatMap matT2)))) := ⟨_, rfl⟩
      have HL := Lib.hid hL
      rw [← hL] at HR hll
      clear hL
      have hbM := blk_new1 wr (.cells #[.int .i64 ms[q].kind, .string ms[q].name, .string ms[q].value] 35) (.cells #[.int .i64 ms[q].kind] 3)
      have HN := Lib.hid (numbers_any w.heap.size (w.heap.size + 1) (wr.heap.size + 1) L [ms[q].kind] _ ((HR.out.1.alloc (.cells #[.int .i64 ms[q].kind, .string ms[q].name, .string ms[q].value] 35)).alloc (.cells #[.int .i64 ms[q].kind] 3)) (by simp only [size_alloc]; omega) (by rw [List.length_singleton]; omega) (by have := blk_new (wr.alloc (.cells #[.int .i64 ms[q].kind, .string ms[q].name, .string ms[q].value] 35)) (.cells #[.int .i64 ms[q].kind] 3); simp only [size_alloc] at this; exact this) (by omega))
      go_wp2_with fail
      refine HN.out.mono ?_
      rintro e w6 ⟨rfl, hq⟩
      have hc := hq.stay hbM (by omega) (by decide)
      have d1 := blk_cell hc (j := 1) rfl
      have HY := Lib.hid hc
      have HQ6 := Lib.hid (((HR.out.alloc (by simp only [size_alloc]; omega) _).alloc (by simp only [size_alloc]; omega) _).trans hq)
      clear hq HN hc hbM
      have hz6 := HQ6.out.2.1.size
      simp only [size_alloc] at hz6
      have HN := Lib.hid (text_any w.heap.size (w.heap.size + 1) _ ms[q].name w6 HQ6.out.1 (by omega) (by simp; omega) (by omega))
      go_wp2_with fail
      refine HN.out.mono ?_
      rintro e w7 ⟨rfl, hq⟩
      have hc := hq.stay HY.out (by omega) (by decide)
      have HQ7 := Lib.hid (HQ6.out.trans hq)
      clear hq HN HQ6 HY d1
      have d2 := blk_cell hc (j := 2) rfl
      clear hc
      have hz7 := HQ7.out.2.1.size
      simp only [size_alloc] at hz7
      have HN := Lib.hid (text_any w.heap.size (w.heap.size + 1) _ ms[q].value w7 HQ7.out.1 (by omega) (by simp [textB_len]; omega) (by omega))
      go_wp2_with fail
      refine HN.out.mono ?_
      rintro e w8 ⟨rfl, hq⟩
      have HQ8 := Lib.hid (HQ7.out.trans hq)
      clear hq HN HQ7 d2
      go_wp2_with fail
      refine ⟨⟨q + 1, by omega, by go_num, Lib.hid ?_⟩, by simp [intOf]; omega⟩
      have hQ := HQ8.out
      rw [HL.out] at hQ
      rw [List.take_succ_eq_append_getElem hlt, List.flatMap_append]
      simpa [matT2, List.append_assoc] using hQ
    · obtain rfl : q = ms.length := by omega
      go_wp2_with fail
      rw [List.take_length] at HR
      have HN := Lib.hid (bString_any _ w.heap.size (w.heap.size + 1) _ wr HR.out.1 (by simp))
      go_wp2_with fail
      refine HN.out.mono ?_
      rintro e w6 ⟨rfl, hq⟩
      go_wp2_with fail
      go_ret
      exact ⟨by simp [hushW, matsW], (HW.out.trans HR.out.2.1).trans hq⟩
end
end Go.Proofs.Ytndgollcganhmaa
namespace Go.Proofs.YtndgollcganhmaaQ.P
open Go.RowKit Go.Proofs.YtndgollcganhmaaW.PrintWords Go.Proofs.Ytndgollcganhmaa
def fewL (xs : List Lab) : Bool := decide (xs.length ≤ 100) && xs.all fun x => decide (x.name.size ≤ 1000) && decide (x.value.size ≤ 1000)
def fewM (xs : List Mat) : Bool := decide (xs.length ≤ 100) && xs.all fun x => decide (x.name.size ≤ 1000) && decide (x.value.size ≤ 1000)
theorem fewL_of {xs : List Lab} (h : fewL xs = true) : xs.length ≤ 100 ∧ ∀ x ∈ xs, x.name.size ≤ 1000 ∧ x.value.size ≤ 1000 := by simpa [fewL] using h
theorem fewM_of {xs : List Mat} (h : fewM xs = true) : xs.length ≤ 100 ∧ ∀ x ∈ xs, x.name.size ≤ 1000 ∧ x.value.size ≤ 1000 := by simpa [fewM] using h
def tickB (t : Int) : Bool := decide (0 ≤ t) && decide (t ≤ 1099511627776)
theorem tickB_of {t : Int} (h : tickB t = true) : 0 ≤ t ∧ t ≤ 1099511627776 := by simpa [tickB] using h
def putW (k : Int) (l1 : List Lab) (rt pl tr due st : Int) (l7 : List Lab) (fr tt : Int) (l10 : List Mat) : List UInt8 :=
  if k = 1 then dutyW rt pl tr due st l1 else if k = 2 then goneW l7 else hushW k fr tt l10
def code_put.f (a0_0 : Int) (l0_1 : List (S41)) (a0_2 : Int) (a0_3 : Int) (a0_4 : Int) (a0_5 : Int) (a0_6 : Int) (l0_7 : List (S41)) (a0_8 : Int) (a0_9 : Int) (l0_10 : List (S35)) : Option (ByteArray) :=
  if (if a0_0 = 1 then fewL (l0_1.map toLab) && tickB a0_5 else if a0_0 = 2 then fewL (l0_7.map toLab) else fewM (l0_10.map toMat) && (tickB a0_8 && tickB a0_9)) = true then
    some ⟨(putW a0_0 (l0_1.map toLab) a0_2 a0_3 a0_4 a0_5 a0_6 (l0_7.map toLab) a0_8 a0_9 (l0_10.map toMat)).toArray⟩ else none
theorem code_put.calls (a0_0 : Int) (A0_1 : Option Addr) (c0_1 : Nat) (l0_1 : List (S41)) (a0_2 : Int) (a0_3 : Int) (a0_4 : Int) (a0_5 : Int) (a0_6 : Int) (A0_7 : Option Addr) (c0_7 : Nat) (l0_7 : List (S41)) (a0_8 : Int) (a0_9 : Int) (A0_10 : Option Addr) (c0_10 : Nat) (l0_10 : List (S35)) (r : ByteArray) (w : World) (hr0_1 : Kd.C k41 w A0_1 l0_1.length l0_1) (hc0_1 : l0_1.length ≤ c0_1) (hr0_7 : Kd.C k41 w A0_7 l0_7.length l0_7) (hc0_7 : l0_7.length ≤ c0_7) (hr0_10 : Kd.C k35 w A0_10 l0_10.length l0_10) (hc0_10 : l0_10.length ≤ c0_10) (h : code_put.f a0_0 l0_1 a0_2 a0_3 a0_4 a0_5 a0_6 l0_7 a0_8 a0_9 l0_10 = some r) :
    Calls Try.prog 48 #[.agg #[.int .i64 a0_0, .slice A0_1 l0_1.length c0_1, .int .i64 a0_2, .int .i64 a0_3, .int .i64 a0_4, .int .i64 a0_5, .int .i64 a0_6, .slice A0_7 l0_7.length c0_7, .int .i64 a0_8, .int .i64 a0_9, .slice A0_10 l0_10.length c0_10]] w fun e w' => e = .returned (.string r) ∧ Below w.heap.size w w' := by
  obtain ⟨h1, rfl⟩ := if_some h
  by_cases e1 : a0_0 = 1
  · subst e1
    simp only [if_pos, Bool.and_eq_true] at h1
    have hf := fewL_of h1.1
    have ht := tickB_of h1.2
    have := put1_any A0_1 A0_7 A0_10 l0_7.length l0_10.length c0_1 c0_7 c0_10 a0_2 a0_3 a0_4 a0_5 a0_6 a0_8 a0_9 (l0_1.map toLab) w (by have := labs_c hr0_1 hc0_1; rwa [List.length_map] at this ⊢) hf.1 hf.2 ht.1 ht.2
    rwa [List.length_map] at this
  · rw [if_neg e1] at h1
    by_cases e2 : a0_0 = 2
    · subst e2
      simp only [if_pos] at h1
      have hf := fewL_of h1
      have := put2_any A0_1 A0_7 A0_10 l0_1.length l0_10.length c0_1 c0_7 c0_10 a0_2 a0_3 a0_4 a0_5 a0_6 a0_8 a0_9 (l0_7.map toLab) w (by have := labs_c hr0_7 hc0_7; rwa [List.length_map] at this ⊢) hf.1 hf.2
      rwa [List.length_map] at this
    · rw [if_neg e2] at h1
      simp only [Bool.and_eq_true] at h1
      have hf := fewM_of h1.1
      have ht := tickB_of h1.2.1
      have hu := tickB_of h1.2.2
      have := put3_any A0_1 A0_7 A0_10 l0_1.length l0_7.length c0_1 c0_7 c0_10 a0_2 a0_3 a0_4 a0_5 a0_6 a0_8 a0_9 a0_0 (l0_10.map toMat) w e1 e2 (by have := mats_c hr0_10 hc0_10; rwa [List.length_map] at this ⊢) hf.1 hf.2 ht.1 ht.2 hu.1 hu.2
      rw [List.length_map] at this
      unfold putW
      rw [if_neg e1, if_neg e2]
      exact this
end Go.Proofs.YtndgollcganhmaaQ.P
namespace Go.Proofs.YtndgollcganhmaaQ.P
open Go.RowKit Go.Proofs.YtndgollcganhmaaW.PrintWords Go.Proofs.YtndgollcganhmaaW.PrintLast Go.Proofs.YtndgollcganhmaaW.PrintMore
attribute [local go_sem] max2_int min2_int max_two min_two max_three min_three max_four min_four
def code_Put.f (a0_0 : Int) (l0_1 : List (S41)) (a0_2 : Int) (a0_3 : Int) (a0_4 : Int) (a0_5 : Int) (a0_6 : Int) (l0_7 : List (S41)) (a0_8 : Int) (a0_9 : Int) (l0_10 : List (S35)) : Option (ByteArray × Int) := (code_Right.f a0_0 l0_1 a0_2 a0_3 a0_4 a0_5 a0_6 l0_7 a0_8 a0_9 l0_10).bind fun t245 => (if t245 = true then ((code_put.f a0_0 l0_1 a0_2 a0_3 a0_4 a0_5 a0_6 l0_7 a0_8 a0_9 l0_10).bind fun t246 => (some (t246, 0))) else (some ((⟨#[]⟩ : ByteArray), 1)))
set_option maxHeartbeats 8000000 in
set_option maxRecDepth 100000 in
theorem code_Put.calls (a0_0 : Int) (A0_1 : Option Addr) (c0_1 : Nat) (l0_1 : List (S41)) (a0_2 : Int) (a0_3 : Int) (a0_4 : Int) (a0_5 : Int) (a0_6 : Int) (A0_7 : Option Addr) (c0_7 : Nat) (l0_7 : List (S41)) (a0_8 : Int) (a0_9 : Int) (A0_10 : Option Addr) (c0_10 : Nat) (l0_10 : List (S35)) (r1 : ByteArray) (r2 : Int) (w : World) (hr0_1 : Kd.C k41 w A0_1 l0_1.length l0_1) (hc0_1 : l0_1.length ≤ c0_1) (hr0_7 : Kd.C k41 w A0_7 l0_7.length l0_7) (hc0_7 : l0_7.length ≤ c0_7) (hr0_10 : Kd.C k35 w A0_10 l0_10.length l0_10) (hc0_10 : l0_10.length ≤ c0_10) (h : code_Put.f a0_0 l0_1 a0_2 a0_3 a0_4 a0_5 a0_6 l0_7 a0_8 a0_9 l0_10 = some (r1, r2)) :
  Calls Try.prog 25 #[.agg #[.int .i64 a0_0, .slice A0_1 l0_1.length c0_1, .int .i64 a0_2, .int .i64 a0_3, .int .i64 a0_4, .int .i64 a0_5, .int .i64 a0_6, .slice A0_7 l0_7.length c0_7, .int .i64 a0_8, .int .i64 a0_9, .slice A0_10 l0_10.length c0_10]] w fun e w' => e = .returned (.tuple #[.string r1, .int .i64 r2]) ∧ Below w.heap.size w w' := by
 have hu50 := Try.underlying50
 have HR0_1 := aA hr0_1
 have HC0_1 := aA hc0_1
 clear hr0_1 hc0_1
 have HR0_7 := aA hr0_7
 have HC0_7 := aA hc0_7
 clear hr0_7 hc0_7
 have HR0_10 := aA hr0_10
 have HC0_10 := aA hc0_10
 clear hr0_10 hc0_10
 have HB := aA (Below.refl w.heap.size w)
 have H : ((code_Right.f a0_0 l0_1 a0_2 a0_3 a0_4 a0_5 a0_6 l0_7 a0_8 a0_9 l0_10).bind fun t245 => (if t245 = true then ((code_put.f a0_0 l0_1 a0_2 a0_3 a0_4 a0_5 a0_6 l0_7 a0_8 a0_9 l0_10).bind fun t246 => (some (t246, 0))) else (some ((⟨#[]⟩ : ByteArray), 1)))) = some (r1, r2) := h
 clear h
 replace H := Option.bind_eq_some_iff.mp H
 obtain ⟨t245, A20, H⟩ := H
 replace H : (if t245 = true then ((code_put.f a0_0 l0_1 a0_2 a0_3 a0_4 a0_5 a0_6 l0_7 a0_8 a0_9 l0_10).bind fun t246 => (some (t246, 0))) else (some ((⟨#[]⟩ : ByteArray), 1))) = some (r1, r2) := H
 have A2 := aA A20
 clear A20
 by_cases c3 : t245 = true
 ·subst c3
  have H1 : ((code_put.f a0_0 l0_1 a0_2 a0_3 a0_4 a0_5 a0_6 l0_7 a0_8 a0_9 l0_10).bind fun t246 => (some (t246, 0))) = some (r1, r2) := by rw [if_pos rfl] at H; exact H
  clear H
  have H := H1
  clear H1
  replace H := Option.bind_eq_some_iff.mp H
  obtain ⟨t246, A40, H⟩ := H
  replace H : (some (t246, 0)) = some (r1, r2) := H
  have A4 := aA A40
  clear A40
  simp only [Option.some.injEq, Prod.mk.injEq] at H
  obtain ⟨rfl, rfl⟩ := H
  go_enter Try.func25, Try.ntmps25
  go_wp2_with (first | ((with_reducible refine gate_dst (N := 1) rfl ?_); refine box_event ?hg (N := 1) ?hd (cs := #[.int .i64 a0_0, .slice A0_1 l0_1.length c0_1, .int .i64 a0_2, .int .i64 a0_3, .int .i64 a0_4, .int .i64 a0_5, .int .i64 a0_6, .slice A0_7 l0_7.length c0_7, .int .i64 a0_8, .int .i64 a0_9, .slice A0_10 l0_10.length c0_10]) (t := 50) ?hr ?_; (case hd => rfl); (case hg => rfl); (case hr => first | (go_simp; done) | (go_simp; rfl)); intro gb244 hg w5 hbox hb; have n0_ := aA (below_step mB hb); have n1_ := aA (hbox); have n2_ := aA ((bZ hg mB)); have n3_ := aA ((bZ hg mB)); clear HB; have HB := n0_; have BK244 := n1_; have GW244 := n2_; have GE244 := n3_; clear n0_ n1_ n2_ n3_ hb hbox hg; obtain ⟨hcz6_0, hcz6_1, hcz6_2, hcz6_3, hcz6_4, hcz6_5, hcz6_6, hcz6_7, hcz6_8, hcz6_9, hcz6_10⟩ := bC11 BK244.out; obtain ⟨hfz6_0, hfz6_1, hfz6_2, hfz6_3, hfz6_4, hfz6_5, hfz6_6, hfz6_7, hfz6_8, hfz6_9, hfz6_10⟩ := bF11 BK244.out) | ((with_reducible refine gate_callee (f := 26) rfl ?_); refine goesL_ (some 5) rfl rfl Try.func26 (by kernel_rfl) rfl #[.agg #[.int .i64 a0_0, .slice A0_1 l0_1.length c0_1, .int .i64 a0_2, .int .i64 a0_3, .int .i64 a0_4, .int .i64 a0_5, .int .i64 a0_6, .slice A0_7 l0_7.length c0_7, .int .i64 a0_8, .int .i64 a0_9, .slice A0_10 l0_10.length c0_10]] rfl mS ?_; (with_reducible refine (code_Right.calls a0_0 _ _ l0_1 a0_2 a0_3 a0_4 a0_5 a0_6 _ _ l0_7 a0_8 a0_9 _ _ l0_10 true _ ?side1 ?side2 ?side3 ?side4 ?side5 ?side6 A2.out).mono ?_); (case side1 => exact mC ((Kd.C_below HR0_1.out HB.out))); (case side2 => exact HC0_1.out); (case side3 => exact mC ((Kd.C_below HR0_7.out HB.out))); (case side4 => exact HC0_7.out); (case side5 => exact mC ((Kd.C_below HR0_10.out HB.out))); (case side6 => exact HC0_10.out); rintro e w7 ⟨rfl, hb⟩; refine ⟨_, rfl, ?_⟩; have n0_ := aA (bB BK244.out hb); have n1_ := aA (below_step (mD1 GE244.out) hb); clear BK244 HB; have BK244 := n0_; have HB := n1_; clear n0_ n1_; (try clear hb); (try clear hb2); (try clear hk); (try clear hi); obtain ⟨hcz8_0, hcz8_1, hcz8_2, hcz8_3, hcz8_4, hcz8_5, hcz8_6, hcz8_7, hcz8_8, hcz8_9, hcz8_10⟩ := bC11 BK244.out; obtain ⟨hfz8_0, hfz8_1, hfz8_2, hfz8_3, hfz8_4, hfz8_5, hfz8_6, hfz8_7, hfz8_8, hfz8_9, hfz8_10⟩ := bF11 BK244.out) | ((with_reducible refine gate_callee (f := 48) rfl ?_); refine goesL_ (some 8) rfl rfl Try.func48 (by kernel_rfl) rfl #[.agg #[.int .i64 a0_0, .slice A0_1 l0_1.length c0_1, .int .i64 a0_2, .int .i64 a0_3, .int .i64 a0_4, .int .i64 a0_5, .int .i64 a0_6, .slice A0_7 l0_7.length c0_7, .int .i64 a0_8, .int .i64 a0_9, .slice A0_10 l0_10.length c0_10]] rfl mS ?_; (with_reducible refine (code_put.calls a0_0 _ _ l0_1 a0_2 a0_3 a0_4 a0_5 a0_6 _ _ l0_7 a0_8 a0_9 _ _ l0_10 t246 _ ?side1 ?side2 ?side3 ?side4 ?side5 ?side6 A4.out).mono ?_); (case side1 => exact mC ((Kd.C_below HR0_1.out HB.out))); (case side2 => exact HC0_1.out); (case side3 => exact mC ((Kd.C_below HR0_7.out HB.out))); (case side4 => exact HC0_7.out); (case side5 => exact mC ((Kd.C_below HR0_10.out HB.out))); (case side6 => exact HC0_10.out); rintro e w9 ⟨rfl, hb⟩; refine ⟨_, rfl, ?_⟩; have n0_ := aA (bB BK244.out hb); have n1_ := aA (below_step (mD1 GE244.out) hb); clear BK244 HB; have BK244 := n0_; have HB := n1_; clear n0_ n1_; (try clear hb); (try clear hb2); (try clear hk); (try clear hi)))
  go_ret2
  exact ⟨by first | rfl | (simp [errW_none, errW_some] <;> rfl) | (simp [*, errW_none, errW_some] <;> rfl), by repeat (first | (with_reducible first | exact HB.out | apply below_alloc | apply pw_below_drewN | apply below_drew1 | refine below_set ?_ GE244.out) | exact HB.out)⟩
 ·replace c3 := Bool.eq_false_iff.mpr c3
  subst c3
  have H1 : (some ((⟨#[]⟩ : ByteArray), 1)) = some (r1, r2) := by rw [if_neg (show ¬ (false = true) by decide)] at H; exact H
  clear H
  have H := H1
  clear H1
  simp only [Option.some.injEq, Prod.mk.injEq] at H
  obtain ⟨rfl, rfl⟩ := H
  go_enter Try.func25, Try.ntmps25
  go_wp2_with (first | ((with_reducible refine gate_dst (N := 1) rfl ?_); refine box_event ?hg (N := 1) ?hd (cs := #[.int .i64 a0_0, .slice A0_1 l0_1.length c0_1, .int .i64 a0_2, .int .i64 a0_3, .int .i64 a0_4, .int .i64 a0_5, .int .i64 a0_6, .slice A0_7 l0_7.length c0_7, .int .i64 a0_8, .int .i64 a0_9, .slice A0_10 l0_10.length c0_10]) (t := 50) ?hr ?_; (case hd => rfl); (case hg => rfl); (case hr => first | (go_simp; done) | (go_simp; rfl)); intro gb244 hg w10 hbox hb; have n0_ := aA (below_step mB hb); have n1_ := aA (hbox); have n2_ := aA ((bZ hg mB)); have n3_ := aA ((bZ hg mB)); clear HB; have HB := n0_; have BK244 := n1_; have GW244 := n2_; have GE244 := n3_; clear n0_ n1_ n2_ n3_ hb hbox hg; obtain ⟨hcz11_0, hcz11_1, hcz11_2, hcz11_3, hcz11_4, hcz11_5, hcz11_6, hcz11_7, hcz11_8, hcz11_9, hcz11_10⟩ := bC11 BK244.out; obtain ⟨hfz11_0, hfz11_1, hfz11_2, hfz11_3, hfz11_4, hfz11_5, hfz11_6, hfz11_7, hfz11_8, hfz11_9, hfz11_10⟩ := bF11 BK244.out) | ((with_reducible refine gate_callee (f := 26) rfl ?_); refine goesL_ (some 5) rfl rfl Try.func26 (by kernel_rfl) rfl #[.agg #[.int .i64 a0_0, .slice A0_1 l0_1.length c0_1, .int .i64 a0_2, .int .i64 a0_3, .int .i64 a0_4, .int .i64 a0_5, .int .i64 a0_6, .slice A0_7 l0_7.length c0_7, .int .i64 a0_8, .int .i64 a0_9, .slice A0_10 l0_10.length c0_10]] rfl mS ?_; (with_reducible refine (code_Right.calls a0_0 _ _ l0_1 a0_2 a0_3 a0_4 a0_5 a0_6 _ _ l0_7 a0_8 a0_9 _ _ l0_10 false _ ?side1 ?side2 ?side3 ?side4 ?side5 ?side6 A2.out).mono ?_); (case side1 => exact mC ((Kd.C_below HR0_1.out HB.out))); (case side2 => exact HC0_1.out); (case side3 => exact mC ((Kd.C_below HR0_7.out HB.out))); (case side4 => exact HC0_7.out); (case side5 => exact mC ((Kd.C_below HR0_10.out HB.out))); (case side6 => exact HC0_10.out); rintro e w12 ⟨rfl, hb⟩; refine ⟨_, rfl, ?_⟩; have n0_ := aA (bB BK244.out hb); have n1_ := aA (below_step (mD1 GE244.out) hb); clear BK244 HB; have BK244 := n0_; have HB := n1_; clear n0_ n1_; (try clear hb); (try clear hb2); (try clear hk); (try clear hi)))
  go_ret2
  exact ⟨by first | rfl | (simp [errW_none, errW_some] <;> rfl) | (simp [*, errW_none, errW_some] <;> rfl), by repeat (first | (with_reducible first | exact HB.out | apply below_alloc | apply pw_below_drewN | apply below_drew1 | refine below_set ?_ GE244.out) | exact HB.out)⟩
end Go.Proofs.YtndgollcganhmaaQ.P
namespace Go.Proofs.Ytndgollcganhmaa
open Go.RowKit
abbrev Rst := List UInt8 × Bool
def takeF (n : Nat) (r : Rst) : List UInt8 × Rst := if r.1.length < n then (List.replicate n 0, ([], true)) else (r.1.take n, (r.1.drop n, r.2))
def numF : Rst → Nat × Rst
  | ([], _) => (0, ([], true))
  | (c :: t, b) => (c.toNat, (t, b))
def timeF : Nat → Nat → Rst → Nat × Rst
  | 0, n, r => (n, r)
  | k + 1, n, r => timeF k (n * 256 + (numF r).1) (numF r).2
def textF (r : Rst) : List UInt8 × Rst := takeF (numF r).1 (numF r).2
def tx (l : List UInt8) : ByteArray := ⟨l.toArray⟩
theorem tx_size (l : List UInt8) : (tx l).size = l.length := by simp [tx, ByteArray.size]
theorem tx_data (l : List UInt8) : (tx l).data.toList = l := rfl
theorem tx_of (s : ByteArray) : tx s.data.toList = s := by cases s; simp [tx]
def labF (r : Rst) : Lab × Rst := (⟨tx (textF r).1, tx (textF (textF r).2).1⟩, (textF (textF r).2).2)
def labsF : Nat → List Lab → Rst → List Lab × Rst
  | 0, l, r => (l, r)
  | n + 1, l, r => if r.2 = true then (l, r) else labsF n (l ++ [(labF r).1]) (labF r).2
def matF (r : Rst) : Mat × Rst :=
  (⟨(numF r).1, tx (textF (numF r).2).1, tx (textF (textF (numF r).2).2).1⟩, (textF (textF (numF r).2).2).2)
def matsF : Nat → List Mat → Rst → List Mat × Rst
  | 0, l, r => (l, r)
  | n + 1, l, r => if r.2 = true then (l, r) else matsF n (l ++ [(matF r).1]) (matF r).2
theorem takeF_len (n : Nat) (r : Rst) : (takeF n r).1.length = n := by
  unfold takeF
  split
  · simp
  · simp only [List.length_take]; omega
theorem numF_le (r : Rst) : (numF r).1 ≤ 255 := by
  obtain ⟨l, b⟩ := r
  cases l with
  | nil => simp [numF]
  | cons c t => have := c.toNat_lt; simp only [numF]; omega
theorem takeF_rest (n : Nat) (r : Rst) : (takeF n r).2.1.length ≤ r.1.length := by
  unfold takeF
  split
  · simp
  · simp
theorem numF_rest (r : Rst) : (numF r).2.1.length ≤ r.1.length := by
  obtain ⟨l, b⟩ := r
  cases l <;> simp [numF]
theorem numF_take (r : Rst) : numF r = ((takeF 1 r).1.headD 0 |>.toNat, (takeF 1 r).2) := by
  obtain ⟨l, b⟩ := r
  cases l <;> simp [numF, takeF]
theorem repeat_zero : ∀ n, Lib.repeatL [0] n = List.replicate n 0
  | 0 => rfl
  | n + 1 => by rw [Lib.repeatL, repeat_zero n]; rfl
end Go.Proofs.Ytndgollcganhmaa
namespace Go.Proofs.Ytndgollcganhmaa
open Go.RowKit
structure App (w : World) (k : Option Nat) where
  W : World
  gr : w.grownBy W k
instance (w : World) (k : Option Nat) : Nonempty (App w k) := ⟨⟨w, ⟨rfl, rfl, rfl, Nat.le_refl _, fun _ _ _ => rfl⟩⟩⟩
def RowAt (W : World) (B : Nat) (e : TypeId) (sz : Nat) (v : Value) (n : Nat) (xs : List Value) : Prop :=
  ∃ g c, v = .slice (some ⟨g, 0, none⟩) n c ∧ B ≤ g ∧ g < W.heap.size ∧ Hid (W.ownsRow B e sz (.slice (some ⟨g, 0, none⟩) n c) n xs)
section
variable {P : Program} {ops : Array Oper} {rest : List Oper} {o : Oper} {a : Act} {Q : Exit → Act → World → Prop} {K : Act → World → Prop} {W w w0 w1 : World} {v : Value} {e : TypeId} {B n sz : Nat} {xs : List Value} {k : Option Nat}
theorem RowAt.own (h : RowAt W B e sz v n xs) : Hid (W.ownsRow B e sz v n xs) := by
  obtain ⟨g, c, rfl, _, _, h⟩ := h
  exact h
theorem RowAt.of {g c : Nat} (h : Hid (W.ownsRow B e sz (.slice (some ⟨g, 0, none⟩) n c) n xs)) : RowAt W B e sz (.slice (some ⟨g, 0, none⟩) n c) n xs :=
  ⟨g, c, rfl, (h.out.lt _ rfl).1, (h.out.lt _ rfl).2, h⟩
theorem row_mono {B' : Nat} (h : W.ownsRow B e sz v n xs) (hb : B' ≤ B) : W.ownsRow B' e sz v n xs :=
  ⟨h.1, h.2.imp id fun ⟨g, cap, cur, h1, h2, h3⟩ => ⟨g, cap, cur, h1, Nat.le_trans hb h2, h3⟩⟩
end
end Go.Proofs.Ytndgollcganhmaa
namespace Go.Proofs.Ytndgollcganhmaa
open Go.RowKit
def FA (g : Nat) (r : Rst) (w : World) : Prop := w.heap[g]? = some (.cells #[.string (tx r.1), .bool r.2] 81 (0, 0))
def FP (g : Nat) (r : Rst) (w w' : World) : Prop := FA g r w' ∧ w.grownBy w' (some g)
theorem FP.trans {g : Nat} {r s : Rst} {w w1 w2 : World} (h : FP g r w w1) (k : FP g s w1 w2) : FP g s w w2 := ⟨k.1, h.2.trans k.2⟩
theorem FP.here {g : Nat} {r : Rst} {w : World} (h : FA g r w) : FP g r w w := ⟨h, World.grownBy.refl _ _⟩
theorem tx_cut (l : List UInt8) (n : Nat) (h : n ≤ l.length) : (tx l).extract 0 n = tx (l.take n) := by
  apply ByteArray.ext
  apply Array.toList_inj.1
  simp [tx, ByteArray.data_extract]
theorem tx_drop (l : List UInt8) (n : Nat) : (tx l).extract n l.length = tx (l.drop n) := by
  apply ByteArray.ext
  apply Array.toList_inj.1
  simp [tx, ByteArray.data_extract]
  exact List.take_of_length_le (by simp)
theorem set_heap {w : World} {g j : Nat} {cs : Array Value} {T : TypeId} (h : w.heap[g]? = some (.cells cs T (0, 0))) (v : Value) : (w.setCell ⟨g, j, none⟩ v).heap[g]? = some (.cells (cs.setIfInBounds j v) T (0, 0)) := by
  obtain ⟨hlt, hk⟩ := Array.getElem?_eq_some_iff.1 h
  show (w.heap.modify g _)[g]? = _
  rw [Array.getElem?_eq_getElem (by rw [Array.size_modify]; exact hlt), Array.getElem_modify_self, hk]
  rfl
theorem gr_set {w w1 : World} {g j : Nat} (h : w.grownBy w1 (some g)) (v : Value) : w.grownBy (w1.setCell ⟨g, j, none⟩ v) (some g) := by
  have key : w1.grownBy (w1.setCell ⟨g, j, none⟩ v) (some g) := ⟨rfl, rfl, rfl, by simp [World.setCell], fun i _ hne => by
    have : i ≠ g := fun h => hne (by rw [h])
    simp [World.setCell, Array.getElem?_modify]
    intro h; exact absurd h.symm this⟩
  exact h.trans key
theorem grown_of {w w1 : World} (h : Below w.heap.size w w1) (k : Option Nat) : w.grownBy w1 k := ⟨h.os, h.tape, h.output, h.size, fun i hi _ => h.block i hi⟩
set_option maxHeartbeats 1000000 in
theorem take_any (g : Nat) (r : Rst) (n : Nat) (w : World) (h : FA g r w) (hn : n ≤ 255) (hl : r.1.length ≤ 100000) :
    Calls Try.prog 88 #[.pointer (some ⟨g, 0, none⟩), .int .i64 n] w fun e w' => e = .returned (.string (tx (takeF n r).1)) ∧ FP g (takeF n r).2 w w' := by
  obtain ⟨l, b⟩ := r
  have hs := tx_size l
  have c0 : w.cell? ⟨g, 0, none⟩ = some (.string (tx l)) := blk_cell h rfl
  have c1 : w.cell? ⟨g, 1, none⟩ = some (.bool b) := blk_cell h rfl
  have hgl := blk_lt h
  have hfz : ∀ j, w.frozen? ⟨g, j, none⟩ = false := fun j => Lib.frozen_of_heap h j
  have HH := Lib.hid h
  clear h
  simp only at hl
  have HR := Lib.hid fun W => Try.strings_Repeat (tx [0]) n W (by omega) (by rw [tx_size]; simp; omega)
  by_cases hlt : l.length < n
  · go_enter Try.func88, Try.ntmps88
    go_wp2_with fail
    refine (HR.out _).mono ?_
    rintro e w2 ⟨rfl, hb⟩
    have hh := set_heap (j := 1) (set_heap (j := 0) HH.out (.string ⟨#[]⟩)) (.bool true)
    have hg := gr_set (j := 1) (gr_set (j := 0) (World.grownBy.refl w (some g)) (.string ⟨#[]⟩)) (.bool true)
    go_wp2_with fail
    go_ret
    have e1 : takeF n (l, b) = (List.replicate n 0, ([], true)) := by simp [takeF, hlt]
    rw [e1]
    refine ⟨by rw [tx_data, repeat_zero]; rfl, (hb.block g (by simpa using hgl)).trans hh, hg.trans (grown_of hb _)⟩
  · go_enter Try.func88, Try.ntmps88
    go_wp2_with fail
    go_ret
    have e1 : takeF n (l, b) = (l.take n, (l.drop n, b)) := by simp [takeF, hlt]
    rw [e1]
    rw [tx_cut l n (by omega), tx_drop]
    exact ⟨rfl, set_heap (j := 0) HH.out _, gr_set (World.grownBy.refl _ _) _⟩
theorem tx_at (l : List UInt8) (i : Nat) (h : i < l.length) (h2 : i < (tx l).size) : (tx l)[i]'h2 = l[i] := by
  simp [tx, ByteArray.getElem_eq_getElem_data]
  try rfl
theorem take1_at (r : Rst) (h : 0 < (tx (takeF 1 r).1).size) : (((tx (takeF 1 r).1)[0]'h).toNat : Int) = (numF r).1 := by
  have hl := takeF_len 1 r
  rw [tx_at _ _ (by omega)]
  rw [numF_take]
  obtain ⟨c, hc⟩ : ∃ c, (takeF 1 r).1 = [c] := List.length_eq_one_iff.1 hl
  simp [hc]
set_option maxHeartbeats 1000000 in
theorem number_any (g : Nat) (r : Rst) (w : World) (h : FA g r w) (hl : r.1.length ≤ 100000) :
    Calls Try.prog 61 #[.pointer (some ⟨g, 0, none⟩)] w fun e w' => e = .returned (.int .i64 (numF r).1) ∧ FP g (numF r).2 w w' := by
  have HT := Lib.hid (take_any g r 1 w h (by omega) hl)
  have hgl := blk_lt h
  have hr : (takeF 1 r).2 = (numF r).2 := by rw [numF_take]
  rw [hr] at HT
  obtain ⟨s, hs, hsz, hat⟩ : ∃ s, s = tx (takeF 1 r).1 ∧ s.size = 1 ∧ ∀ h : 0 < s.size, ((s[0]'h).toNat : Int) = (numF r).1 := ⟨_, rfl, by rw [tx_size, takeF_len], take1_at r⟩
  rw [← hs] at HT
  clear hs h hr
  have hat0 := hat (by omega)
  have hle := numF_le r
  go_enter Try.func61, Try.ntmps61
  go_wp2_with fail
  refine HT.out.mono ?_
  rintro e w2 ⟨rfl, hp⟩
  go_wp2_with fail
  go_ret
  exact ⟨rfl, hp⟩
theorem or256 (m c : Int) (h0 : 0 ≤ m) (h1 : m < 1099511627776) (h2 : 0 ≤ c) (h3 : c < 256) : bits .or .i64 (m * 256) c = m * 256 + c :=
  bits_join .i64 62 (by decide) (fun n a b => by rw [show (2 : Int) ^ 62 = 4611686018427387904 by decide] at b; rw [IntKind.wrap_i64]; omega) 8 (m * 256) c (by omega) (by rw [show (2 : Int) ^ 8 = 256 by decide]; omega) (by rw [show (2 : Int) ^ 62 = 4611686018427387904 by decide]; omega) h2 h3 (by rw [show (2 : Int) ^ 62 = 4611686018427387904 by decide]; omega)
set_option maxHeartbeats 1000000 in
theorem ftime_any (g : Nat) (r : Rst) (w : World) (h : FA g r w) (hl : r.1.length ≤ 100000) :
    Calls Try.prog 62 #[.pointer (some ⟨g, 0, none⟩)] w fun e w' => e = .returned (.int .i64 (timeF 6 0 r).1) ∧ FP g (timeF 6 0 r).2 w w' := by
  have HH := Lib.hid h
  clear h
  go_enter Try.func62, Try.ntmps62
  go_wp2
  go_loopw [4, 3] (fun i m wr => ∃ k q : Nat, ∃ s : Rst, k ≤ 6 ∧ i = .int .i64 k ∧ m = .int .i64 q ∧ q < 256 ^ k ∧ s.1.length ≤ 100000 ∧ Hid (timeF (6 - k) q s = timeF 6 0 r) ∧ Hid (FP g s w wr)) (fun i _ _ => 6 - (intOf i).toNat)
  case atStart => exact ⟨0, 0, r, by omega, rfl, rfl, by decide, hl, Lib.hid rfl, Lib.hid (FP.here HH.out)⟩
  case round =>
    obtain ⟨k, q, s, hk, rfl, rfl, hq, hsl, HE, HF⟩ := hrel
    by_cases hlt : k < 6
    · have hq5 : q < 1099511627776 := Nat.lt_of_lt_of_le hq (Nat.pow_le_pow_right (n := 256) (by decide) (show k ≤ 5 by omega))
      have HN := Lib.hid (number_any g s wr HF.out.1 hsl)
      have hle := numF_le s
      have hor := or256 q (numF s).1 (by omega) (by omega) (by omega) (by omega)
      have hrest := numF_rest s
      have HE2 := Lib.hid (show timeF (6 - (k + 1)) (q * 256 + (numF s).1) (numF s).2 = timeF 6 0 r by rw [← HE.out, show 6 - k = (6 - (k + 1)) + 1 by omega]; rfl)
      have HQ := Lib.hid (show q * 256 + (numF s).1 < 256 ^ (k + 1) by rw [Nat.pow_succ]; omega)
      clear HE hq
      obtain ⟨c, hc⟩ : ∃ c, c = (numF s).1 := ⟨_, rfl⟩
      rw [← hc] at HN hle hor HE2 HQ
      clear hc
      go_wp2_with fail
      refine HN.out.mono ?_
      rintro e w2 ⟨rfl, hp⟩
      go_wp2_with fail
      refine ⟨⟨k + 1, q * 256 + c, (numF s).2, by omega, by go_num, by go_num, HQ.out, by omega, HE2, Lib.hid (HF.out.trans hp)⟩, by simp [intOf]; omega⟩
    · obtain rfl : k = 6 := by omega
      have hE : (q, s) = timeF 6 0 r := HE.out
      have hF := HF.out
      go_wp2
      go_ret
      rw [← hE]
      exact ⟨rfl, hF⟩
theorem FP.drew {g : Nat} {r : Rst} {w w1 : World} (h : FP g r w.drew w1) : FP g r w w1 := ⟨h.1, h.2.os, h.2.tape, h.2.output, h.2.size, h.2.block⟩
set_option maxHeartbeats 1000000 in
theorem ftext_any (g : Nat) (r : Rst) (w : World) (h : FA g r w) (hl : r.1.length ≤ 100000) :
    Calls Try.prog 89 #[.pointer (some ⟨g, 0, none⟩)] w fun e w' => e = .returned (.string (tx (textF r).1)) ∧ FP g (textF r).2 w w' := by
  have HN := Lib.hid fun W (h : FA g r W) => number_any g r W h hl
  have HT := Lib.hid fun W (h : FA g (numF r).2 W) => take_any g (numF r).2 (numF r).1 W h (numF_le r) (Nat.le_trans (numF_rest r) hl)
  have hgl := blk_lt h
  have c0 : w.cell? ⟨g, 0, none⟩ = some (.string (tx r.1)) := blk_cell h rfl
  have HH := Lib.hid h
  clear h
  unfold textF
  go_enter Try.func89, Try.ntmps89
  go_wp2_with fail
  go_region_law (first
    | (go_simp; go_at_call 61; refine (HN.out _ (show FA g r w.drew from HH.out)).mono ?_; rintro e w1 ⟨rfl, hp1⟩)
    | (go_simp; go_at_call 88; refine (HT.out _ hp1.1).mono ?_; rintro e w2 ⟨rfl, hp2⟩))
  all_goals (go_wp2_with fail; go_ret; exact ⟨rfl, (hp1.trans hp2).drew⟩)
theorem gr_then {w w1 w2 : World} {g : Nat} {k : Option Nat} (h : w.grownBy w1 (some g)) (h2 : w1.grownBy w2 k) (hk : ∀ j, k = some j → w.heap.size ≤ j) : w.grownBy w2 (some g) :=
  ⟨h2.os.trans h.os, h2.tape.trans h.tape, h2.output.trans h.output, Nat.le_trans h.size h2.size, fun i hi hne =>
    (h2.block i (Nat.lt_of_lt_of_le hi h.size) (fun e => by have := hk i e.symm; omega)).trans (h.block i hi hne)⟩
theorem infoLabF : (Try.prog.info? 41).map (fun i => (i.zero, i.size, i.bytes)) = some (some (.agg #[.string ⟨#[]⟩, .string ⟨#[]⟩]), 2, 32) := by kernel_rfl
theorem infoMatF : (Try.prog.info? 35).map (fun i => (i.zero, i.size, i.bytes)) = some (some (.agg #[.int .i64 0, .string ⟨#[]⟩, .string ⟨#[]⟩]), 3, 40) := by kernel_rfl
theorem FA.far {g : Nat} {r : Rst} {w w1 : World} {k : Option Nat} (h : FA g r w) (hg : w.grownBy w1 k) (hk : ∀ j, k = some j → g < j) : FA g r w1 :=
  (hg.block g (blk_lt h) (fun e => by have := hk g e.symm; omega)).trans h
theorem row_ne {w : World} {B g n sz : Nat} {e : TypeId} {v : Value} {xs : List Value} (h : w.ownsRow B e sz v n xs) (hg : g < B) : v.ownBlock = none ∨ v.ownBlock ≠ some g :=
  .inr fun e => by have := (h.lt g e).1; omega
theorem row_gt {w : World} {B g n sz : Nat} {e : TypeId} {v : Value} {xs : List Value} (h : w.ownsRow B e sz v n xs) (hg : g < B) : ∀ j, v.ownBlock = some j → g < j :=
  fun j e => by have := (h.lt j e).1; omega
theorem textF_rest (r : Rst) : (textF r).2.1.length ≤ r.1.length := Nat.le_trans (takeF_rest _ _) (numF_rest _)
theorem labsF_done (k : Nat) (l : List Lab) (s : Rst) (h : k = 0 ∨ s.2 = true) : labsF k l s = (l, s) := by
  cases k with
  | zero => rfl
  | succ k => simp [labsF, h.resolve_left (by omega)]
theorem labsF_next (k : Nat) (l : List Lab) (s : Rst) (h0 : 0 < k) (h : s.2 = false) : labsF k l s = labsF (k - 1) (l ++ [(labF s).1]) (labF s).2 := by
  obtain ⟨k, rfl⟩ : ∃ j, k = j + 1 := ⟨k - 1, by omega⟩
  simp [labsF, h]
theorem labsC_snoc (l : List Lab) (x : Lab) : labsC l ++ labC x = labsC (l ++ [x]) := by simp [labsC]
theorem labs_oneF (x : Lab) : ∀ u ∈ labC x, u.oneCell' = true := by simp [labC, Value.oneCell']
theorem mats_oneF (x : Mat) : ∀ u ∈ matC x, u.oneCell' = true := by simp [matC, Value.oneCell']
set_option maxHeartbeats 2000000 in
set_option maxRecDepth 100000 in
theorem flabels_any (g : Nat) (r : Rst) (w : World) (h : FA g r w) (hl : r.1.length ≤ 100000) :
    Calls Try.prog 63 #[.pointer (some ⟨g, 0, none⟩)] w fun e w' => ∃ v, e = .returned v ∧ Hid (w'.ownsRow w.heap.size 41 2 v (labsF (numF r).1 [] (numF r).2).1.length (labsC (labsF (numF r).1 [] (numF r).2).1)) ∧ FP g (labsF (numF r).1 [] (numF r).2).2 w w' := by
  have hgl := blk_lt h
  have HN := Lib.hid (number_any g r w h hl)
  have hr0 := numF_rest r
  have hn0 := numF_le r
  obtain ⟨R, hR⟩ : ∃ R, R = labsF (numF r).1 [] (numF r).2 := ⟨_, rfl⟩
  rw [← hR]
  have HRR := Lib.hid hR
  clear hR h
  obtain ⟨n0, hn⟩ : ∃ n, n = (numF r).1 := ⟨_, rfl⟩
  rw [← hn] at HN hn0 HRR
  clear hn
  go_enter Try.func63, Try.ntmps63
  go_wp2_with fail
  refine HN.out.mono ?_
  rintro e w1 ⟨rfl, hp⟩
  have HP := Lib.hid hp
  clear hp HN
  go_wp2_with fail
  go_loopw [4, 3] (fun i v wr => ∃ k : Nat, ∃ l : List Lab, ∃ s : Rst, i = .int .i64 k ∧ k + l.length ≤ 255 ∧ s.1.length ≤ 100000 ∧ Hid (R = labsF k l s) ∧ Hid (wr.ownsRow w.heap.size 41 2 v l.length (labsC l)) ∧ Hid (FP g s w wr)) (fun i _ _ => (intOf i).toNat)
  case atStart => exact ⟨n0, [], (numF r).2, rfl, by simpa using hn0, by omega, HRR, Lib.hid (World.ownsRow_nil _ _ _ _), HP⟩
  case round =>
    obtain ⟨k, l, s, rfl, hk, hsl, HE, HO, HF⟩ := hrel
    clear HP HRR
    have d1 : wr.cell? ⟨g, 1, none⟩ = some (.bool s.2) := blk_cell HF.out.1 rfl
    have hgr := blk_lt HF.out.1
    rcases Bool.eq_false_or_eq_true s.2 with hb | hb
    · rw [hb] at d1
      have hE := HE.out
      rw [labsF_done _ _ _ (.inr hb)] at hE
      by_cases h0 : 0 < k
      · go_wp2_with fail
        go_ret
        rw [hE]
        exact ⟨_, rfl, HO, HF.out⟩
      · go_wp2_with fail
        go_ret
        rw [hE]
        exact ⟨_, rfl, HO, HF.out⟩
    · rw [hb] at d1
      by_cases h0 : 0 < k
      · have hE := HE.out
        rw [labsF_next _ _ _ h0 hb] at hE
        have HE2 := Lib.hid hE
        clear hE HE
        have HT1 := Lib.hid (ftext_any g s wr HF.out.1 hsl)
        have hs2 := textF_rest s
        have hs3 := textF_rest (textF s).2
        have HT2 := Lib.hid fun W (h : FA g (textF s).2 W) => ftext_any g (textF s).2 W h (by omega)
        have hE3 : R = labsF (k - 1) (l ++ [⟨tx (textF s).1, tx (textF (textF s).2).1⟩]) (textF (textF s).2).2 := HE2.out
        obtain ⟨s2, hs2e⟩ : ∃ q, q = (textF s).2 := ⟨_, rfl⟩
        obtain ⟨n1, hn1⟩ : ∃ q, q = tx (textF s).1 := ⟨_, rfl⟩
        rw [← hs2e] at HT1 HT2 hE3 hs3 hs2
        rw [← hn1] at HT1 hE3
        obtain ⟨s3, hs3e⟩ : ∃ q, q = (textF s2).2 := ⟨_, rfl⟩
        obtain ⟨n2, hn2⟩ : ∃ q, q = tx (textF s2).1 := ⟨_, rfl⟩
        rw [← hs3e] at HT2 hE3 hs3
        rw [← hn2] at HT2 hE3
        have HE3 := Lib.hid hE3
        clear hs2e hn1 hs3e hn2 hE3 HE2
        have hsz := HF.out.2.size
        go_wp2_with fail
        refine HT1.out.mono ?_
        rintro e w2 ⟨rfl, hp⟩
        have HP2 := Lib.hid hp
        clear hp
        go_wp2_with fail
        refine (HT2.out w2 HP2.out.1).mono ?_
        rintro e w3 ⟨rfl, hp⟩
        have HP3 := Lib.hid (HP2.out.trans hp)
        have hsz3 := HP3.out.2.size
        have HO3 := Lib.hid (HO.out.kept HP3.out.2 (row_ne HO.out hgl))
        have HI := Lib.hid infoLabF
        clear hp HT1 HT2 HP2 HO
        go_wp2_with (refine ev_app1 rfl (.tmp 22) (.tmp 27) _ (by rfl) (.agg #[.string ⟨#[]⟩, .string ⟨#[]⟩]) 32 (by kernel_rfl) HI.out rfl (by omega) (by omega) [.string n1, .string n2] (by rfl) (by rfl) rfl (labs_oneF ⟨n1, n2⟩) HO3.out (by omega) (by omega) ?_; intro g1 cap1 w4 HO4 hB4 hlt4 hg4; have hP4 : FP g s3 w w4 := ⟨HP3.out.1.far hg4 (row_gt HO3.out hgl), gr_then (HF.out.trans HP3.out).2 hg4 (fun j e => ((HO3.out.lt j e).1))⟩; have HP4 := Lib.hid hP4; clear hP4)
        refine ⟨⟨k - 1, l ++ [⟨n1, n2⟩], s3, by go_num, by simp; omega, by omega, HE3, ?_, HP4⟩, by simp [intOf]; omega⟩
        have hO := HO4.out
        rw [show labsC l ++ [Value.string n1, Value.string n2] = labsC (l ++ [⟨n1, n2⟩]) from labsC_snoc l ⟨n1, n2⟩] at hO
        exact Lib.hid (by rw [List.length_append]; exact hO)
      · have hE := HE.out
        rw [labsF_done _ _ _ (.inl (by omega))] at hE
        go_wp2_with fail
        go_ret
        rw [hE]
        exact ⟨_, rfl, HO, HF.out⟩
theorem timeF_rest : ∀ (k n : Nat) (r : Rst), (timeF k n r).2.1.length ≤ r.1.length
  | 0, n, r => Nat.le_refl _
  | k + 1, n, r => Nat.le_trans (timeF_rest k _ _) (numF_rest r)
theorem FP.stay {g b : Nat} {r : Rst} {w w1 : World} {ob : Obj} (h : FP g r w w1) (hb : w.heap[b]? = some ob) (hne : b ≠ g) : w1.heap[b]? = some ob :=
  (h.2.block b (blk_lt hb) (fun e => hne (Option.some.inj e))).trans hb
theorem row_type {w : World} {B b n sz : Nat} {e T : TypeId} {v : Value} {xs : List Value} {cs : Array Value} {fr : Nat × Nat} (h : w.ownsRow B e sz v n xs) (hb : w.heap[b]? = some (.cells cs T fr)) (hT : T ≠ e) : v.ownBlock ≠ some b := by
  rcases h.2 with ⟨rfl, _⟩ | ⟨g, cap, cur, rfl, _, hg, _⟩
  · simp [Value.ownBlock]
  · intro h2
    obtain rfl : g = b := by simpa [Value.ownBlock] using h2
    rw [hb] at hg
    injection hg with hg
    injection hg with _ h3
    exact hT h3
theorem FP.set {g b j : Nat} {r : Rst} {w w1 : World} (h : FP g r w w1) (hb : b ≠ g) (hB : w.heap.size ≤ b) (u : Value) : FP g r w (w1.setCell ⟨b, j, none⟩ u) :=
  ⟨(Below.heap_setCell w1 ⟨b, j, none⟩ u g (fun e => hb e.symm)).trans h.1, gr_then h.2 (gr_set (World.grownBy.refl w1 (some b)) u) (fun i e => by obtain rfl := Option.some.inj e; exact hB)⟩
theorem row_set {w : World} {B b j n sz : Nat} {e : TypeId} {v : Value} {xs : List Value} (h : w.ownsRow B e sz v n xs) (hb : v.ownBlock ≠ some b) (u : Value) : (w.setCell ⟨b, j, none⟩ u).ownsRow B e sz v n xs :=
  h.kept (gr_set (World.grownBy.refl w (some b)) u) (.inr hb)
theorem matsF_done (k : Nat) (l : List Mat) (s : Rst) (h : k = 0 ∨ s.2 = true) : matsF k l s = (l, s) := by
  cases k with
  | zero => rfl
  | succ k => simp [matsF, h.resolve_left (by omega)]
theorem matsF_next (k : Nat) (l : List Mat) (s : Rst) (h0 : 0 < k) (h : s.2 = false) : matsF k l s = matsF (k - 1) (l ++ [(matF s).1]) (matF s).2 := by
  obtain ⟨k, rfl⟩ : ∃ j, k = j + 1 := ⟨k - 1, by omega⟩
  simp [matsF, h]
theorem matsC_snoc (l : List Mat) (x : Mat) : matsC l ++ matC x = matsC (l ++ [x]) := by simp [matsC]
set_option maxHeartbeats 4000000 in
set_option maxRecDepth 100000 in
theorem fhush_any (g : Nat) (r : Rst) (w : World) (h : FA g r w) (hl : r.1.length ≤ 100000) :
    Calls Try.prog 64 #[.pointer (some ⟨g, 0, none⟩)] w fun e w' => ∃ v, e = .returned (.agg #[.int .i64 (timeF 6 0 r).1, .int .i64 (timeF 6 0 (timeF 6 0 r).2).1, v])
      ∧ Hid (w'.ownsRow w.heap.size 35 3 v (matsF (numF (timeF 6 0 (timeF 6 0 r).2).2).1 [] (numF (timeF 6 0 (timeF 6 0 r).2).2).2).1.length (matsC (matsF (numF (timeF 6 0 (timeF 6 0 r).2).2).1 [] (numF (timeF 6 0 (timeF 6 0 r).2).2).2).1))
      ∧ FP g (matsF (numF (timeF 6 0 (timeF 6 0 r).2).2).1 [] (numF (timeF 6 0 (timeF 6 0 r).2).2).2).2 w w' := by
  have hgl := blk_lt h
  have hl1 := timeF_rest 6 0 r
  have HT1 := Lib.hid fun W (h : FA g r W) => ftime_any g r W h hl
  obtain ⟨fr, hfr⟩ : ∃ q, q = (timeF 6 0 r).1 := ⟨_, rfl⟩
  obtain ⟨s1, hs1⟩ : ∃ q, q = (timeF 6 0 r).2 := ⟨_, rfl⟩
  rw [← hfr, ← hs1] at HT1
  rw [← hfr, ← hs1]
  rw [← hs1] at hl1
  have hl2 := timeF_rest 6 0 s1
  have HT2 := Lib.hid fun W (h : FA g s1 W) => ftime_any g s1 W h (by omega)
  obtain ⟨tt, htt⟩ : ∃ q, q = (timeF 6 0 s1).1 := ⟨_, rfl⟩
  obtain ⟨s2, hs2⟩ : ∃ q, q = (timeF 6 0 s1).2 := ⟨_, rfl⟩
  rw [← htt, ← hs2] at HT2
  rw [← htt, ← hs2]
  rw [← hs2] at hl2
  have hl3 := numF_rest s2
  have hn0 := numF_le s2
  have HN := Lib.hid fun W (h : FA g s2 W) => number_any g s2 W h (by omega)
  obtain ⟨n0, hn⟩ : ∃ q, q = (numF s2).1 := ⟨_, rfl⟩
  obtain ⟨s3, hs3⟩ : ∃ q, q = (numF s2).2 := ⟨_, rfl⟩
  rw [← hn, ← hs3] at HN
  rw [← hn, ← hs3]
  rw [← hs3] at hl3
  rw [← hn] at hn0
  obtain ⟨R, hR⟩ : ∃ R, R = matsF n0 [] s3 := ⟨_, rfl⟩
  rw [← hR]
  have HRR := Lib.hid hR
  have HA := Lib.hid h
  clear hR h hfr hs1 htt hs2 hn hs3
  go_enter Try.func64, Try.ntmps64
  go_wp2_with fail
  refine (HT1.out _ (HA.out.far (World.grownBy_alloc w _ none) (by simp))).mono ?_
  rintro e w1 ⟨rfl, hp⟩
  have hZ := hp.stay (blk_new w (.cells #[.int .i64 0, .int .i64 0, .slice none 0 0] 48)) (by omega)
  have HP1 := Lib.hid (show FP g s1 w w1 from ⟨hp.1, gr_then (World.grownBy.refl w _) (World.grownBy_alloc w _ none) (by simp) |>.trans hp.2⟩)
  have HZ := Lib.hid hZ
  clear hp hZ HT1
  go_wp2_with fail
  refine (HT2.out _ HP1.out.1).mono ?_
  rintro e w2 ⟨rfl, hp⟩
  have hZ := hp.stay HZ.out (by omega)
  have HP2 := Lib.hid (HP1.out.trans hp)
  clear HZ
  have HZ := Lib.hid hZ
  clear hp hZ HT2
  have hsz1 := HP1.out.2.size
  have hsz2 := HP2.out.2.size
  go_wp2_with fail
  refine (HN.out _ (HP2.out.1.far (World.grownBy_alloc w2 _ none) (by simp))).mono ?_
  rintro e w3 ⟨rfl, hp⟩
  have hlt2 := blk_lt HZ.out
  have hZ := hp.stay ((Lib.alloc_old w2 (.cells #[.int .i64 fr, .int .i64 tt, .slice none 0 0] 48) w.heap.size hlt2).trans HZ.out) (by omega)
  have hY := hp.stay (blk_new w2 (.cells #[.int .i64 fr, .int .i64 tt, .slice none 0 0] 48)) (by omega)
  have HP3 := Lib.hid (show FP g s3 w w3 from ⟨hp.1, gr_then HP2.out.2 (World.grownBy_alloc w2 (.cells #[.int .i64 fr, .int .i64 tt, .slice none 0 0] 48) none) (by simp) |>.trans hp.2⟩)
  clear HZ
  have HZ := Lib.hid hZ
  have HY := Lib.hid hY
  clear hp hZ hY HN
  obtain ⟨hb, hhb⟩ : ∃ q, q = w2.heap.size := ⟨_, rfl⟩
  rw [← hhb] at HY
  simp only [← hhb]
  rw [← hhb] at hsz2 hlt2
  clear hhb
  go_wp2_with fail
  go_loopw [5] (fun i wr => ∃ k : Nat, ∃ l : List Mat, ∃ s : Rst, ∃ v : Value, i = .int .i64 k ∧ k + l.length ≤ 255 ∧ s.1.length ≤ 100000 ∧ Hid (R = matsF k l s) ∧ Hid (wr.ownsRow w.heap.size 35 3 v l.length (matsC l)) ∧ Hid (wr.heap[w.heap.size]? = some (.cells #[.int .i64 0, .int .i64 0, .slice none 0 0] 48 (0, 0))) ∧ Hid (wr.heap[hb]? = some (.cells #[.int .i64 fr, .int .i64 tt, v] 48 (0, 0))) ∧ Hid (FP g s w wr)) (fun i _ => (intOf i).toNat)
  case atStart => exact ⟨n0, [], s3, _, rfl, by simpa using hn0, by omega, HRR, Lib.hid (World.ownsRow_nil _ _ _ _), HZ, HY, HP3⟩
  case round =>
    obtain ⟨k, l, s, v, rfl, hk, hsl, HE, HO, HZ, HY, HF⟩ := hrel
    obtain ⟨A, c, rfl⟩ := row_form HO.out
    have d1 : wr.cell? ⟨g, 1, none⟩ = some (.bool s.2) := blk_cell HF.out.1 rfl
    have hgr := blk_lt HF.out.1
    have y0 : wr.cell? ⟨hb, 0, none⟩ = some (.int .i64 fr) := blk_cell HY.out rfl
    have y1 : wr.cell? ⟨hb, 1, none⟩ = some (.int .i64 tt) := blk_cell HY.out rfl
    have y2 : wr.cell? ⟨hb, 2, none⟩ = some (.slice A l.length c) := blk_cell HY.out rfl
    have z0 : wr.cell? ⟨w.heap.size, 0, none⟩ = some (.int .i64 0) := blk_cell HZ.out rfl
    have z1 : wr.cell? ⟨w.heap.size, 1, none⟩ = some (.int .i64 0) := blk_cell HZ.out rfl
    have z2 : wr.cell? ⟨w.heap.size, 2, none⟩ = some (.slice none 0 0) := blk_cell HZ.out rfl
    have hzr := row_type HO.out HZ.out (by decide)
    have zf := fun j => Lib.frozen_of_heap HZ.out j
    rcases Bool.eq_false_or_eq_true s.2 with hbb | hbb
    · rw [hbb] at d1
      have hE := HE.out
      rw [matsF_done _ _ _ (.inr hbb)] at hE
      by_cases h0 : 0 < k
      · skip
        go_wp2_with fail
        refine bodyPost_ret (v := .agg #[.int .i64 fr, .int .i64 tt, .slice A l.length c]) ?_ rfl ?_
        · simp [results, Try.results64, go_sem, z0, z1, z2]
        · rw [hE]
          exact ⟨_, rfl, Lib.hid (row_set (row_set (row_set HO.out hzr _) hzr _) hzr _), ((HF.out.set (by omega) (Nat.le_refl _) _).set (by omega) (Nat.le_refl _) _).set (by omega) (Nat.le_refl _) _⟩
      · skip
        go_wp2_with fail
        refine bodyPost_ret (v := .agg #[.int .i64 fr, .int .i64 tt, .slice A l.length c]) ?_ rfl ?_
        · simp [results, Try.results64, go_sem, z0, z1, z2]
        · rw [hE]
          exact ⟨_, rfl, Lib.hid (row_set (row_set (row_set HO.out hzr _) hzr _) hzr _), ((HF.out.set (by omega) (Nat.le_refl _) _).set (by omega) (Nat.le_refl _) _).set (by omega) (Nat.le_refl _) _⟩
    · rw [hbb] at d1
      by_cases h0 : 0 < k
      · have hE := HE.out
        rw [matsF_next _ _ _ h0 hbb] at hE
        have hE3 : R = matsF (k - 1) (l ++ [⟨(numF s).1, tx (textF (numF s).2).1, tx (textF (textF (numF s).2).2).1⟩]) (textF (textF (numF s).2).2).2 := hE
        have hq1 := numF_rest s
        have hq2 := textF_rest (numF s).2
        have hq3 := textF_rest (textF (numF s).2).2
        have hn1 := numF_le s
        have HM1 := Lib.hid (number_any g s wr HF.out.1 hsl)
        have HM2 := Lib.hid fun W (h : FA g (numF s).2 W) => ftext_any g (numF s).2 W h (by omega)
        have HM3 := Lib.hid fun W (h : FA g (textF (numF s).2).2 W) => ftext_any g (textF (numF s).2).2 W h (by omega)
        obtain ⟨s4, hs4⟩ : ∃ q, q = (numF s).2 := ⟨_, rfl⟩
        obtain ⟨kk, hkk⟩ : ∃ q, q = (numF s).1 := ⟨_, rfl⟩
        rw [← hs4] at HM1 HM2 HM3 hE3 hq1 hq2 hq3
        rw [← hkk] at HM1 hE3 hn1
        obtain ⟨s5, hs5⟩ : ∃ q, q = (textF s4).2 := ⟨_, rfl⟩
        obtain ⟨n1, hn1⟩ : ∃ q, q = tx (textF s4).1 := ⟨_, rfl⟩
        rw [← hs5] at HM2 HM3 hE3 hq2 hq3
        rw [← hn1] at HM2 hE3
        obtain ⟨s6, hs6⟩ : ∃ q, q = (textF s5).2 := ⟨_, rfl⟩
        obtain ⟨n2, hn2⟩ : ∃ q, q = tx (textF s5).1 := ⟨_, rfl⟩
        rw [← hs6] at HM3 hE3 hq3
        rw [← hn2] at HM3 hE3
        have HE3 := Lib.hid hE3
        clear hs4 hkk hs5 hn1 hs6 hn2 hE3 HE hE z0 z1 z2 zf y0 y1 y2 hzr
        have hsz := HF.out.2.size
        go_wp2_with fail
        refine HM1.out.mono ?_
        rintro e w4 ⟨rfl, hp⟩
        have HP4 := Lib.hid hp
        clear hp
        go_wp2_with fail
        refine (HM2.out w4 HP4.out.1).mono ?_
        rintro e w5 ⟨rfl, hp⟩
        have HP5 := Lib.hid (HP4.out.trans hp)
        clear hp HM1 HM2 HP4
        have hY5 := HP5.out.stay HY.out (by omega)
        have y5 : w5.cell? ⟨hb, 2, none⟩ = some (.slice A l.length c) := blk_cell hY5 rfl
        have HY5 := Lib.hid hY5
        clear hY5
        have HI := Lib.hid infoMatF
        go_wp2_with fail
        go_region_law (first
          | (go_simp; go_at_call 89; refine (HM3.out _ (show FA g s5 w5.drew from HP5.out.1)).mono ?_; rintro e w6 ⟨rfl, hp⟩; have hP6 : FP g s6 wr w6 := HP5.out.trans hp.drew; have hY6 := hP6.stay HY.out (by omega); have y6 : w6.cell? ⟨hb, 2, none⟩ = some (.slice A l.length c) := blk_cell hY6 rfl; have HP6 := Lib.hid hP6; have HY6 := Lib.hid hY6; have HO6 := Lib.hid (HO.out.kept hP6.2 (row_ne HO.out hgl)); have hb6 := blk_lt hY6; clear hp hP6 hY6; have hsz6 := HP6.out.2.size)
          | (refine st_app1 (W := w6) rfl (.tmp 33) (.tmp 39) _ (by rfl) (.agg #[.int .i64 0, .string ⟨#[]⟩, .string ⟨#[]⟩]) 40 (by kernel_rfl) HI.out rfl (by omega) (by omega) [.int .i64 kk, .string n1, .string n2] (by rfl) (by rfl) rfl (mats_oneF ⟨kk, n1, n2⟩) HO6.out (by omega) (by omega) ?_; intro g1 cap1 w7 HO7 hB7 hlt7 hg7; have hY7 := (hg7.block hb (blk_lt HY6.out) (fun e => row_type HO6.out HY6.out (by decide) e.symm)).trans HY6.out; have y7 := blk_cell hY7 (j := 2) rfl; have f7 := blk_free hY7 2; have hZ6 := HP6.out.stay HZ.out (by omega); have hZ7 := (hg7.block w.heap.size (blk_lt hZ6) (fun e => row_type HO6.out hZ6 (by decide) e.symm)).trans hZ6; have HY7 := Lib.hid hY7; have HZ7 := Lib.hid hZ7; have hP7 : FP g s6 w w7 := ⟨HP6.out.1.far hg7 (row_gt HO6.out hgl), gr_then (HF.out.trans HP6.out).2 hg7 (fun j e => ((HO6.out.lt j e).1))⟩; have HP7 := Lib.hid hP7; clear hY7 hZ6 hZ7 hP7))
        all_goals
          go_wp2_with fail
          have hO := HO7.out
          rw [show matsC l ++ [Value.int .i64 kk, Value.string n1, Value.string n2] = matsC (l ++ [⟨kk, n1, n2⟩]) from matsC_snoc l ⟨kk, n1, n2⟩] at hO
          have hne := row_type hO HY7.out (by decide)
          refine ⟨⟨k - 1, l ++ [⟨kk, n1, n2⟩], s6, _, by go_num, by simp; omega, by omega, HE3, Lib.hid (row_set (by rw [List.length_append]; exact hO) hne _), Lib.hid ((Below.heap_setCell w7 ⟨hb, 2, none⟩ _ w.heap.size (fun e => by have : w.heap.size = hb := e; omega)).trans HZ7.out), Lib.hid (set_heap (j := 2) HY7.out _), Lib.hid (HP7.out.set (by omega) (by omega) _)⟩, by simp [intOf]; omega⟩
      · have hE := HE.out
        rw [matsF_done _ _ _ (.inl (by omega))] at hE
        go_wp2_with fail
        refine bodyPost_ret (v := .agg #[.int .i64 fr, .int .i64 tt, .slice A l.length c]) ?_ rfl ?_
        · simp [results, Try.results64, go_sem, z0, z1, z2]
        · rw [hE]
          exact ⟨_, rfl, Lib.hid (row_set (row_set (row_set HO.out hzr _) hzr _) hzr _), ((HF.out.set (by omega) (Nat.le_refl _) _).set (by omega) (Nat.le_refl _) _).set (by omega) (Nat.le_refl _) _⟩
end Go.Proofs.Ytndgollcganhmaa
namespace Go.Proofs.Ytndgollcganhmaa
open Go.RowKit
def iter (f : Int → Int) : Nat → Int → Int
  | 0, r => r
  | k+1, r => f (iter f k r)
end Go.Proofs.Ytndgollcganhmaa
