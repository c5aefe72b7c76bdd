/- Part 5 of a proof: contracts and plain laws of what the statement reaches. No condition. -/
import Derived.Test.YtjfknmlchdifjaaGreatDoorWcp1
import Derived.Test.YtjfknmlchdifjaaGreatDoorWcp2
import Derived.Test.YtjfknmlchdifjaaGreatDoorWcp3
import Derived.Test.YtjfknmlchdifjaaGreatDoorWcp4
set_option linter.unusedVariables false
set_option linter.unusedSimpArgs false
namespace Go.Proofs.YtjfknmlchdifjaaGreatDoorQ.P
open Go.RowKit Go.Proofs.YtjfknmlchdifjaaGreatDoorW.PrintWords Go.Proofs.YtjfknmlchdifjaaGreatDoorW.PrintLast Go.Proofs.YtjfknmlchdifjaaGreatDoorW.PrintMore
attribute [local go_sem] max2_int min2_int max_two min_two max_three min_three max_four min_four
def foghornref08_Right.f (a0_0 : Int) (a0_1 : Int) (a0_2 : Int) (a0_3 : Int) : Option (Bool) := if a0_0 ≥ 1 then (if a0_0 ≤ 100 then (if a0_1 ≥ 1 then (if a0_1 ≤ 1048576 then (if a0_2 ≥ 0 then (if a0_2 ≤ a0_0 then ((foghornref05_Right.f a0_3).bind fun t155 => (some t155)) else (some false)) else (some false)) else (some false)) else (some false)) else (some false)) else (some false)
set_option maxHeartbeats 8000000 in
set_option maxRecDepth 100000 in
theorem foghornref08_Right.calls (a0_0 : Int) (a0_1 : Int) (a0_2 : Int) (a0_3 : Int) (r : Bool) (w : World) (h : foghornref08_Right.f a0_0 a0_1 a0_2 a0_3 = some r) :
  Calls Tryz.prog 115 #[.agg #[.int .i64 a0_0, .int .i64 a0_1, .int .i64 a0_2, .int .i64 a0_3]] w fun e w' => e = .returned (.bool r) ∧ Below w.heap.size w w' := by
 have hu145 := Tryz.underlying145
 have HB := aA (Below.refl w.heap.size w)
 have H : (if a0_0 ≥ 1 then (if a0_0 ≤ 100 then (if a0_1 ≥ 1 then (if a0_1 ≤ 1048576 then (if a0_2 ≥ 0 then (if a0_2 ≤ a0_0 then ((foghornref05_Right.f a0_3).bind fun t155 => (some t155)) else (some false)) else (some false)) else (some false)) else (some false)) else (some false)) else (some false)) = some r := h
 clear h
 by_cases c2 : a0_0 ≥ 1
 ·rw [if_pos c2] at H
  have c2b0 : decide (1 ≤ a0_0) = true := decide_eq_true c2
  clear c2
  by_cases c3 : a0_0 ≤ 100
  ·rw [if_pos c3] at H
   have c3b0 : decide (a0_0 ≤ 100) = true := decide_eq_true c3
   clear c3
   by_cases c4 : a0_1 ≥ 1
   ·rw [if_pos c4] at H
    have c4b0 : decide (1 ≤ a0_1) = true := decide_eq_true c4
    clear c4
    by_cases c5 : a0_1 ≤ 1048576
    ·rw [if_pos c5] at H
     have c5b0 : decide (a0_1 ≤ 1048576) = true := decide_eq_true c5
     clear c5
     by_cases c6 : a0_2 ≥ 0
     ·rw [if_pos c6] at H
      have c6b0 : decide (0 ≤ a0_2) = true := decide_eq_true c6
      clear c6
      by_cases c7 : a0_2 ≤ a0_0
      ·rw [if_pos c7] at H
       have c7b0 : decide (a0_2 ≤ a0_0) = true := decide_eq_true c7
       clear c7
       replace H := Option.bind_eq_some_iff.mp H
       obtain ⟨t155, A80, H⟩ := H
       have A8 := aA A80
       clear A80
       obtain rfl := Option.some.inj H
       go_enter Tryz.func115, Tryz.ntmps115
       go_wp2_with (first | ((with_reducible refine gate_dst (N := 1) rfl ?_); refine box_event ?hg (N := 1) ?hd (cs := #[.int .i64 a0_0, .int .i64 a0_1, .int .i64 a0_2, .int .i64 a0_3]) (t := 145) ?hr ?_; (case hd => rfl); (case hg => rfl); (case hr => first | (go_simp; done) | (go_simp; rfl)); intro gb154 hg w9 hbox hb; have n0_ := aA (below_step mB hb); have n1_ := aA (hbox); have n2_ := aA ((bZ hg mB)); have n3_ := aA ((bZ hg mB)); clear HB; have HB := n0_; have BK154 := n1_; have GW154 := n2_; have GE154 := n3_; clear n0_ n1_ n2_ n3_ hb hbox hg; obtain ⟨hcz10_0, hcz10_1, hcz10_2, hcz10_3⟩ := bC4 BK154.out; obtain ⟨hfz10_0, hfz10_1, hfz10_2, hfz10_3⟩ := bF4 BK154.out) | (go_at_call 93; (with_reducible refine (foghornref05_Right.calls a0_3 t155 _ A8.out).mono ?_); rintro e w' ⟨rfl, ⟨nd, rfl⟩⟩))
       go_ret
       exact ⟨by first | rfl | (simp [errW_none, errW_some] <;> rfl) | (simp [*, errW_none, errW_some] <;> rfl), by repeat (first | (with_reducible first | exact HB.out | apply below_alloc | apply pw_below_drewN | apply below_drew1 | refine below_set ?_ GE154.out) | exact HB.out)⟩
      ·rw [if_neg c7] at H
       have c7b0 : decide (a0_2 ≤ a0_0) = false := decide_eq_false c7
       clear c7
       obtain rfl := Option.some.inj H
       go_enter Tryz.func115, Tryz.ntmps115
       go_wp2_with (first | ((with_reducible refine gate_dst (N := 1) rfl ?_); refine box_event ?hg (N := 1) ?hd (cs := #[.int .i64 a0_0, .int .i64 a0_1, .int .i64 a0_2, .int .i64 a0_3]) (t := 145) ?hr ?_; (case hd => rfl); (case hg => rfl); (case hr => first | (go_simp; done) | (go_simp; rfl)); intro gb154 hg w11 hbox hb; have n0_ := aA (below_step mB hb); have n1_ := aA (hbox); have n2_ := aA ((bZ hg mB)); have n3_ := aA ((bZ hg mB)); clear HB; have HB := n0_; have BK154 := n1_; have GW154 := n2_; have GE154 := n3_; clear n0_ n1_ n2_ n3_ hb hbox hg; obtain ⟨hcz12_0, hcz12_1, hcz12_2, hcz12_3⟩ := bC4 BK154.out; obtain ⟨hfz12_0, hfz12_1, hfz12_2, hfz12_3⟩ := bF4 BK154.out))
       go_ret
       exact ⟨by first | rfl | (simp [errW_none, errW_some] <;> rfl) | (simp [*, errW_none, errW_some] <;> rfl), by repeat (first | (with_reducible first | exact HB.out | apply below_alloc | apply pw_below_drewN | apply below_drew1 | refine below_set ?_ GE154.out) | exact HB.out)⟩
     ·rw [if_neg c6] at H
      have c6b0 : decide (0 ≤ a0_2) = false := decide_eq_false c6
      clear c6
      obtain rfl := Option.some.inj H
      go_enter Tryz.func115, Tryz.ntmps115
      go_wp2_with (first | ((with_reducible refine gate_dst (N := 1) rfl ?_); refine box_event ?hg (N := 1) ?hd (cs := #[.int .i64 a0_0, .int .i64 a0_1, .int .i64 a0_2, .int .i64 a0_3]) (t := 145) ?hr ?_; (case hd => rfl); (case hg => rfl); (case hr => first | (go_simp; done) | (go_simp; rfl)); intro gb154 hg w13 hbox hb; have n0_ := aA (below_step mB hb); have n1_ := aA (hbox); have n2_ := aA ((bZ hg mB)); have n3_ := aA ((bZ hg mB)); clear HB; have HB := n0_; have BK154 := n1_; have GW154 := n2_; have GE154 := n3_; clear n0_ n1_ n2_ n3_ hb hbox hg; obtain ⟨hcz14_0, hcz14_1, hcz14_2, hcz14_3⟩ := bC4 BK154.out; obtain ⟨hfz14_0, hfz14_1, hfz14_2, hfz14_3⟩ := bF4 BK154.out))
      go_ret
      exact ⟨by first | rfl | (simp [errW_none, errW_some] <;> rfl) | (simp [*, errW_none, errW_some] <;> rfl), by repeat (first | (with_reducible first | exact HB.out | apply below_alloc | apply pw_below_drewN | apply below_drew1 | refine below_set ?_ GE154.out) | exact HB.out)⟩
    ·rw [if_neg c5] at H
     have c5b0 : decide (a0_1 ≤ 1048576) = false := decide_eq_false c5
     clear c5
     obtain rfl := Option.some.inj H
     go_enter Tryz.func115, Tryz.ntmps115
     go_wp2_with (first | ((with_reducible refine gate_dst (N := 1) rfl ?_); refine box_event ?hg (N := 1) ?hd (cs := #[.int .i64 a0_0, .int .i64 a0_1, .int .i64 a0_2, .int .i64 a0_3]) (t := 145) ?hr ?_; (case hd => rfl); (case hg => rfl); (case hr => first | (go_simp; done) | (go_simp; rfl)); intro gb154 hg w15 hbox hb; have n0_ := aA (below_step mB hb); have n1_ := aA (hbox); have n2_ := aA ((bZ hg mB)); have n3_ := aA ((bZ hg mB)); clear HB; have HB := n0_; have BK154 := n1_; have GW154 := n2_; have GE154 := n3_; clear n0_ n1_ n2_ n3_ hb hbox hg; obtain ⟨hcz16_0, hcz16_1, hcz16_2, hcz16_3⟩ := bC4 BK154.out; obtain ⟨hfz16_0, hfz16_1, hfz16_2, hfz16_3⟩ := bF4 BK154.out))
     go_ret
     exact ⟨by first | rfl | (simp [errW_none, errW_some] <;> rfl) | (simp [*, errW_none, errW_some] <;> rfl), by repeat (first | (with_reducible first | exact HB.out | apply below_alloc | apply pw_below_drewN | apply below_drew1 | refine below_set ?_ GE154.out) | exact HB.out)⟩
   ·rw [if_neg c4] at H
    have c4b0 : decide (1 ≤ a0_1) = false := decide_eq_false c4
    clear c4
    obtain rfl := Option.some.inj H
    go_enter Tryz.func115, Tryz.ntmps115
    go_wp2_with (first | ((with_reducible refine gate_dst (N := 1) rfl ?_); refine box_event ?hg (N := 1) ?hd (cs := #[.int .i64 a0_0, .int .i64 a0_1, .int .i64 a0_2, .int .i64 a0_3]) (t := 145) ?hr ?_; (case hd => rfl); (case hg => rfl); (case hr => first | (go_simp; done) | (go_simp; rfl)); intro gb154 hg w17 hbox hb; have n0_ := aA (below_step mB hb); have n1_ := aA (hbox); have n2_ := aA ((bZ hg mB)); have n3_ := aA ((bZ hg mB)); clear HB; have HB := n0_; have BK154 := n1_; have GW154 := n2_; have GE154 := n3_; clear n0_ n1_ n2_ n3_ hb hbox hg; obtain ⟨hcz18_0, hcz18_1, hcz18_2, hcz18_3⟩ := bC4 BK154.out; obtain ⟨hfz18_0, hfz18_1, hfz18_2, hfz18_3⟩ := bF4 BK154.out))
    go_ret
    exact ⟨by first | rfl | (simp [errW_none, errW_some] <;> rfl) | (simp [*, errW_none, errW_some] <;> rfl), by repeat (first | (with_reducible first | exact HB.out | apply below_alloc | apply pw_below_drewN | apply below_drew1 | refine below_set ?_ GE154.out) | exact HB.out)⟩
  ·rw [if_neg c3] at H
   have c3b0 : decide (a0_0 ≤ 100) = false := decide_eq_false c3
   clear c3
   obtain rfl := Option.some.inj H
   go_enter Tryz.func115, Tryz.ntmps115
   go_wp2_with (first | ((with_reducible refine gate_dst (N := 1) rfl ?_); refine box_event ?hg (N := 1) ?hd (cs := #[.int .i64 a0_0, .int .i64 a0_1, .int .i64 a0_2, .int .i64 a0_3]) (t := 145) ?hr ?_; (case hd => rfl); (case hg => rfl); (case hr => first | (go_simp; done) | (go_simp; rfl)); intro gb154 hg w19 hbox hb; have n0_ := aA (below_step mB hb); have n1_ := aA (hbox); have n2_ := aA ((bZ hg mB)); have n3_ := aA ((bZ hg mB)); clear HB; have HB := n0_; have BK154 := n1_; have GW154 := n2_; have GE154 := n3_; clear n0_ n1_ n2_ n3_ hb hbox hg; obtain ⟨hcz20_0, hcz20_1, hcz20_2, hcz20_3⟩ := bC4 BK154.out; obtain ⟨hfz20_0, hfz20_1, hfz20_2, hfz20_3⟩ := bF4 BK154.out))
   go_ret
   exact ⟨by first | rfl | (simp [errW_none, errW_some] <;> rfl) | (simp [*, errW_none, errW_some] <;> rfl), by repeat (first | (with_reducible first | exact HB.out | apply below_alloc | apply pw_below_drewN | apply below_drew1 | refine below_set ?_ GE154.out) | exact HB.out)⟩
 ·rw [if_neg c2] at H
  have c2b0 : decide (1 ≤ a0_0) = false := decide_eq_false c2
  clear c2
  obtain rfl := Option.some.inj H
  go_enter Tryz.func115, Tryz.ntmps115
  go_wp2_with (first | ((with_reducible refine gate_dst (N := 1) rfl ?_); refine box_event ?hg (N := 1) ?hd (cs := #[.int .i64 a0_0, .int .i64 a0_1, .int .i64 a0_2, .int .i64 a0_3]) (t := 145) ?hr ?_; (case hd => rfl); (case hg => rfl); (case hr => first | (go_simp; done) | (go_simp; rfl)); intro gb154 hg w21 hbox hb; have n0_ := aA (below_step mB hb); have n1_ := aA (hbox); have n2_ := aA ((bZ hg mB)); have n3_ := aA ((bZ hg mB)); clear HB; have HB := n0_; have BK154 := n1_; have GW154 := n2_; have GE154 := n3_; clear n0_ n1_ n2_ n3_ hb hbox hg; obtain ⟨hcz22_0, hcz22_1, hcz22_2, hcz22_3⟩ := bC4 BK154.out; obtain ⟨hfz22_0, hfz22_1, hfz22_2, hfz22_3⟩ := bF4 BK154.out))
  go_ret
  exact ⟨by first | rfl | (simp [errW_none, errW_some] <;> rfl) | (simp [*, errW_none, errW_some] <;> rfl), by repeat (first | (with_reducible first | exact HB.out | apply below_alloc | apply pw_below_drewN | apply below_drew1 | refine below_set ?_ GE154.out) | exact HB.out)⟩
end Go.Proofs.YtjfknmlchdifjaaGreatDoorQ.P
namespace Go.Proofs.YtjfknmlchdifjaaGreatDoorQ.P
open Go.RowKit Go.Proofs.YtjfknmlchdifjaaGreatDoorW.PrintWords Go.Proofs.YtjfknmlchdifjaaGreatDoorW.PrintLast Go.Proofs.YtjfknmlchdifjaaGreatDoorW.PrintMore
attribute [local go_sem] max2_int min2_int max_two min_two max_three min_three max_four min_four
def foghornref13_receiver.f (k : Nat) (a0_0 : ByteArray) (a0_1 : Int) (a0_2 : Int) (a0_3 : Int) (a0_4 : Int) (a0_5 : Int) (a0_6 : Int) (a0_7 : Int) (a0_8 : Int) : Option (Bool) := (foghornref10_Name.f k a0_0).bind fun t157 => (if t157 = true then (if a0_0.toList = ([105, 102] : List UInt8) then (some false) else ((foghornref06_Right.f a0_1 a0_2 a0_3).bind fun t158 => (if t158 = true then (if a0_4 ≥ 1 then (if a0_4 ≤ 100 then ((foghornref07_Right.f k a0_5 a0_6 0 0 0).bind fun t159 => (if t159 = true then ((foghornref08_Right.f a0_7 a0_8 0 0).bind fun t160 => (some t160)) else (some false))) else (some false)) else (some false)) else (some false)))) else (some false))
set_option maxHeartbeats 8000000 in
set_option maxRecDepth 100000 in
theorem foghornref13_receiver.calls (k : Nat) (a0_0 : ByteArray) (a0_1 : Int) (a0_2 : Int) (a0_3 : Int) (a0_4 : Int) (a0_5 : Int) (a0_6 : Int) (a0_7 : Int) (a0_8 : Int) (r : Bool) (w : World) (h : foghornref13_receiver.f k a0_0 a0_1 a0_2 a0_3 a0_4 a0_5 a0_6 a0_7 a0_8 = some r) :
  Calls Tryz.prog 68 #[.agg #[.string a0_0, .int .i64 a0_1, .int .i64 a0_2, .int .i64 a0_3, .int .i64 a0_4, .int .i64 a0_5, .int .i64 a0_6, .int .i64 a0_7, .int .i64 a0_8]] w fun e w' => e = .returned (.bool r) ∧ Below w.heap.size w w' := by
 have hu90 := Tryz.underlying90
 have hu88 := Tryz.underlying88
 have hu141 := Tryz.underlying141
 have hu145 := Tryz.underlying145
 have HB := aA (Below.refl w.heap.size w)
 have H : ((foghornref10_Name.f k a0_0).bind fun t157 => (if t157 = true then (if a0_0.toList = ([105, 102] : List UInt8) then (some false) else ((foghornref06_Right.f a0_1 a0_2 a0_3).bind fun t158 => (if t158 = true then (if a0_4 ≥ 1 then (if a0_4 ≤ 100 then ((foghornref07_Right.f k a0_5 a0_6 0 0 0).bind fun t159 => (if t159 = true then ((foghornref08_Right.f a0_7 a0_8 0 0).bind fun t160 => (some t160)) else (some false))) else (some false)) else (some false)) else (some false)))) else (some false))) = some r := h
 clear h
 replace H := Option.bind_eq_some_iff.mp H
 obtain ⟨t157, A20, H⟩ := H
 have A2 := aA A20
 clear A20
 by_cases c3 : t157 = true
 ·subst c3
  have H1 : (if a0_0.toList = ([105, 102] : List UInt8) then (some false) else ((foghornref06_Right.f a0_1 a0_2 a0_3).bind fun t158 => (if t158 = true then (if a0_4 ≥ 1 then (if a0_4 ≤ 100 then ((foghornref07_Right.f k a0_5 a0_6 0 0 0).bind fun t159 => (if t159 = true then ((foghornref08_Right.f a0_7 a0_8 0 0).bind fun t160 => (some t160)) else (some false))) else (some false)) else (some false)) else (some false)))) = some r := by rw [if_pos rfl] at H; exact H
  clear H
  have H := H1
  clear H1
  by_cases c4 : a0_0.toList = ([105, 102] : List UInt8)
  ·rw [if_pos c4] at H
   have c4b0 : (a0_0.toList == ([105, 102] : List UInt8)) = true := beq_iff_eq.mpr c4
   have c4b1 : (a0_0.toList != ([105, 102] : List UInt8)) = false := bne_eq_false_iff_eq.mpr c4
   clear c4
   obtain rfl := Option.some.inj H
   go_enter Tryz.func68, Tryz.ntmps68
   go_wp2_with (first | ((with_reducible refine gate_dst (N := 1) rfl ?_); refine box_event ?hg (N := 1) ?hd (cs := #[.string a0_0, .int .i64 a0_1, .int .i64 a0_2, .int .i64 a0_3, .int .i64 a0_4, .int .i64 a0_5, .int .i64 a0_6, .int .i64 a0_7, .int .i64 a0_8]) (t := 90) ?hr ?_; (case hd => rfl); (case hg => rfl); (case hr => first | (go_simp; done) | (go_simp; rfl)); intro gb156 hg w5 hbox hb; have n0_ := aA (below_step mB hb); have n1_ := aA (hbox); have n2_ := aA ((bZ hg mB)); have n3_ := aA ((bZ hg mB)); clear HB; have HB := n0_; have BK156 := n1_; have GW156 := n2_; have GE156 := n3_; clear n0_ n1_ n2_ n3_ hb hbox hg; obtain ⟨hcz6_0, hcz6_1, hcz6_2, hcz6_3, hcz6_4, hcz6_5, hcz6_6, hcz6_7, hcz6_8⟩ := bC9 BK156.out; obtain ⟨hfz6_0, hfz6_1, hfz6_2, hfz6_3, hfz6_4, hfz6_5, hfz6_6, hfz6_7, hfz6_8⟩ := bF9 BK156.out) | ((with_reducible refine gate_callee (f := 51) rfl ?_); refine goesL_ (some 5) rfl rfl Tryz.func51 (by kernel_rfl) rfl #[.string a0_0] rfl mS ?_; (with_reducible refine (foghornref10_Name.calls k a0_0 true _ A2.out).mono ?_); rintro e w' ⟨rfl, ⟨nd, rfl⟩⟩; refine ⟨_, rfl, ?_⟩))
   go_ret
   exact ⟨by first | rfl | (simp [errW_none, errW_some] <;> rfl) | (simp [*, errW_none, errW_some] <;> rfl), by repeat (first | (with_reducible first | exact HB.out | apply below_alloc | apply pw_below_drewN | apply below_drew1 | refine below_set ?_ GE156.out) | exact HB.out)⟩
  ·rw [if_neg c4] at H
   have c4b0 : (a0_0.toList == ([105, 102] : List UInt8)) = false := beq_eq_false_iff_ne.mpr c4
   have c4b1 : (a0_0.toList != ([105, 102] : List UInt8)) = true := bne_iff_ne.mpr c4
   replace H := Option.bind_eq_some_iff.mp H
   obtain ⟨t158, A70, H⟩ := H
   have A7 := aA A70
   clear A70
   by_cases c8 : t158 = true
   ·subst c8
    have H1 : (if a0_4 ≥ 1 then (if a0_4 ≤ 100 then ((foghornref07_Right.f k a0_5 a0_6 0 0 0).bind fun t159 => (if t159 = true then ((foghornref08_Right.f a0_7 a0_8 0 0).bind fun t160 => (some t160)) else (some false))) else (some false)) else (some false)) = some r := by rw [if_pos rfl] at H; exact H
    clear H
    have H := H1
    clear H1
    by_cases c9 : a0_4 ≥ 1
    ·rw [if_pos c9] at H
     have c9b0 : decide (1 ≤ a0_4) = true := decide_eq_true c9
     clear c9
     by_cases c10 : a0_4 ≤ 100
     ·rw [if_pos c10] at H
      have c10b0 : decide (a0_4 ≤ 100) = true := decide_eq_true c10
      clear c10
      replace H := Option.bind_eq_some_iff.mp H
      obtain ⟨t159, A110, H⟩ := H
      have A11 := aA A110
      clear A110
      by_cases c12 : t159 = true
      ·subst c12
       have H1 : ((foghornref08_Right.f a0_7 a0_8 0 0).bind fun t160 => (some t160)) = some r := by rw [if_pos rfl] at H; exact H
       clear H
       have H := H1
       clear H1
       replace H := Option.bind_eq_some_iff.mp H
       obtain ⟨t160, A130, H⟩ := H
       have A13 := aA A130
       clear A130
       obtain rfl := Option.some.inj H
       go_enter Tryz.func68, Tryz.ntmps68
       go_wp2_with (first | ((with_reducible refine gate_dst (N := 1) rfl ?_); refine box_event ?hg (N := 1) ?hd (cs := #[.string a0_0, .int .i64 a0_1, .int .i64 a0_2, .int .i64 a0_3, .int .i64 a0_4, .int .i64 a0_5, .int .i64 a0_6, .int .i64 a0_7, .int .i64 a0_8]) (t := 90) ?hr ?_; (case hd => rfl); (case hg => rfl); (case hr => first | (go_simp; done) | (go_simp; rfl)); intro gb156 hg w14 hbox hb; have n0_ := aA (below_step mB hb); have n1_ := aA (hbox); have n2_ := aA ((bZ hg mB)); have n3_ := aA ((bZ hg mB)); clear HB; have HB := n0_; have BK156 := n1_; have GW156 := n2_; have GE156 := n3_; clear n0_ n1_ n2_ n3_ hb hbox hg; obtain ⟨hcz15_0, hcz15_1, hcz15_2, hcz15_3, hcz15_4, hcz15_5, hcz15_6, hcz15_7, hcz15_8⟩ := bC9 BK156.out; obtain ⟨hfz15_0, hfz15_1, hfz15_2, hfz15_3, hfz15_4, hfz15_5, hfz15_6, hfz15_7, hfz15_8⟩ := bF9 BK156.out) | ((with_reducible refine gate_callee (f := 51) rfl ?_); refine goesL_ (some 5) rfl rfl Tryz.func51 (by kernel_rfl) rfl #[.string a0_0] rfl mS ?_; (with_reducible refine (foghornref10_Name.calls k a0_0 true _ A2.out).mono ?_); rintro e w' ⟨rfl, ⟨nd, rfl⟩⟩; refine ⟨_, rfl, ?_⟩) | (go_at_call 113; (with_reducible refine (foghornref06_Right.calls a0_1 a0_2 a0_3 true _ A7.out).mono ?_); rintro e w16 ⟨rfl, hb⟩; have n0_ := aA (bB BK156.out hb); have n1_ := aA (below_step (mD1 GE156.out) hb); clear BK156 HB; have BK156 := n0_; have HB := n1_; clear n0_ n1_; (try clear hb); (try clear hb2); (try clear hk); (try clear hi); obtain ⟨hcz17_0, hcz17_1, hcz17_2, hcz17_3, hcz17_4, hcz17_5, hcz17_6, hcz17_7, hcz17_8⟩ := bC9 BK156.out; obtain ⟨hfz17_0, hfz17_1, hfz17_2, hfz17_3, hfz17_4, hfz17_5, hfz17_6, hfz17_7, hfz17_8⟩ := bF9 BK156.out) | (go_at_call 114; (with_reducible refine (foghornref07_Right.calls k a0_5 a0_6 0 0 0 true _ A11.out).mono ?_); rintro e w18 ⟨rfl, hb⟩; have n0_ := aA (bB BK156.out hb); have n1_ := aA (below_step (mD1 GE156.out) hb); clear BK156 HB; have BK156 := n0_; have HB := n1_; clear n0_ n1_; (try clear hb); (try clear hb2); (try clear hk); (try clear hi); obtain ⟨hcz19_0, hcz19_1, hcz19_2, hcz19_3, hcz19_4, hcz19_5, hcz19_6, hcz19_7, hcz19_8⟩ := bC9 BK156.out; obtain ⟨hfz19_0, hfz19_1, hfz19_2, hfz19_3, hfz19_4, hfz19_5, hfz19_6, hfz19_7, hfz19_8⟩ := bF9 BK156.out) | (go_at_call 115; (with_reducible refine (foghornref08_Right.calls a0_7 a0_8 0 0 t160 _ A13.out).mono ?_); rintro e w20 ⟨rfl, hb⟩; have n0_ := aA (bB BK156.out hb); have n1_ := aA (below_step (mD1 GE156.out) hb); clear BK156 HB; have BK156 := n0_; have HB := n1_; clear n0_ n1_; (try clear hb); (try clear hb2); (try clear hk); (try clear hi)))
       go_ret
       exact ⟨by first | rfl | (simp [errW_none, errW_some] <;> rfl) | (simp [*, errW_none, errW_some] <;> rfl), by repeat (first | (with_reducible first | exact HB.out | apply below_alloc | apply pw_below_drewN | apply below_drew1 | refine below_set ?_ GE156.out) | exact HB.out)⟩
      ·replace c12 := Bool.eq_false_iff.mpr c12
       subst c12
       have H1 : (some false) = some r := by rw [if_neg (show ¬ (false = true) by decide)] at H; exact H
       clear H
       have H := H1
       clear H1
       obtain rfl := Option.some.inj H
       go_enter Tryz.func68, Tryz.ntmps68
       go_wp2_with (first | ((with_reducible refine gate_dst (N := 1) rfl ?_); refine box_event ?hg (N := 1) ?hd (cs := #[.string a0_0, .int .i64 a0_1, .int .i64 a0_2, .int .i64 a0_3, .int .i64 a0_4, .int .i64 a0_5, .int .i64 a0_6, .int .i64 a0_7, .int .i64 a0_8]) (t := 90) ?hr ?_; (case hd => rfl); (case hg => rfl); (case hr => first | (go_simp; done) | (go_simp; rfl)); intro gb156 hg w21 hbox hb; have n0_ := aA (below_step mB hb); have n1_ := aA (hbox); have n2_ := aA ((bZ hg mB)); have n3_ := aA ((bZ hg mB)); clear HB; have HB := n0_; have BK156 := n1_; have GW156 := n2_; have GE156 := n3_; clear n0_ n1_ n2_ n3_ hb hbox hg; obtain ⟨hcz22_0, hcz22_1, hcz22_2, hcz22_3, hcz22_4, hcz22_5, hcz22_6, hcz22_7, hcz22_8⟩ := bC9 BK156.out; obtain ⟨hfz22_0, hfz22_1, hfz22_2, hfz22_3, hfz22_4, hfz22_5, hfz22_6, hfz22_7, hfz22_8⟩ := bF9 BK156.out) | ((with_reducible refine gate_callee (f := 51) rfl ?_); refine goesL_ (some 5) rfl rfl Tryz.func51 (by kernel_rfl) rfl #[.string a0_0] rfl mS ?_; (with_reducible refine (foghornref10_Name.calls k a0_0 true _ A2.out).mono ?_); rintro e w' ⟨rfl, ⟨nd, rfl⟩⟩; refine ⟨_, rfl, ?_⟩) | (go_at_call 113; (with_reducible refine (foghornref06_Right.calls a0_1 a0_2 a0_3 true _ A7.out).mono ?_); rintro e w23 ⟨rfl, hb⟩; have n0_ := aA (bB BK156.out hb); have n1_ := aA (below_step (mD1 GE156.out) hb); clear BK156 HB; have BK156 := n0_; have HB := n1_; clear n0_ n1_; (try clear hb); (try clear hb2); (try clear hk); (try clear hi); obtain ⟨hcz24_0, hcz24_1, hcz24_2, hcz24_3, hcz24_4, hcz24_5, hcz24_6, hcz24_7, hcz24_8⟩ := bC9 BK156.out; obtain ⟨hfz24_0, hfz24_1, hfz24_2, hfz24_3, hfz24_4, hfz24_5, hfz24_6, hfz24_7, hfz24_8⟩ := bF9 BK156.out) | (go_at_call 114; (with_reducible refine (foghornref07_Right.calls k a0_5 a0_6 0 0 0 false _ A11.out).mono ?_); rintro e w25 ⟨rfl, hb⟩; have n0_ := aA (bB BK156.out hb); have n1_ := aA (below_step (mD1 GE156.out) hb); clear BK156 HB; have BK156 := n0_; have HB := n1_; clear n0_ n1_; (try clear hb); (try clear hb2); (try clear hk); (try clear hi)))
       go_ret
       exact ⟨by first | rfl | (simp [errW_none, errW_some] <;> rfl) | (simp [*, errW_none, errW_some] <;> rfl), by repeat (first | (with_reducible first | exact HB.out | apply below_alloc | apply pw_below_drewN | apply below_drew1 | refine below_set ?_ GE156.out) | exact HB.out)⟩
     ·rw [if_neg c10] at H
      have c10b0 : decide (a0_4 ≤ 100) = false := decide_eq_false c10
      clear c10
      obtain rfl := Option.some.inj H
      go_enter Tryz.func68, Tryz.ntmps68
      go_wp2_with (first | ((with_reducible refine gate_dst (N := 1) rfl ?_); refine box_event ?hg (N := 1) ?hd (cs := #[.string a0_0, .int .i64 a0_1, .int .i64 a0_2, .int .i64 a0_3, .int .i64 a0_4, .int .i64 a0_5, .int .i64 a0_6, .int .i64 a0_7, .int .i64 a0_8]) (t := 90) ?hr ?_; (case hd => rfl); (case hg => rfl); (case hr => first | (go_simp; done) | (go_simp; rfl)); intro gb156 hg w26 hbox hb; have n0_ := aA (below_step mB hb); have n1_ := aA (hbox); have n2_ := aA ((bZ hg mB)); have n3_ := aA ((bZ hg mB)); clear HB; have HB := n0_; have BK156 := n1_; have GW156 := n2_; have GE156 := n3_; clear n0_ n1_ n2_ n3_ hb hbox hg; obtain ⟨hcz27_0, hcz27_1, hcz27_2, hcz27_3, hcz27_4, hcz27_5, hcz27_6, hcz27_7, hcz27_8⟩ := bC9 BK156.out; obtain ⟨hfz27_0, hfz27_1, hfz27_2, hfz27_3, hfz27_4, hfz27_5, hfz27_6, hfz27_7, hfz27_8⟩ := bF9 BK156.out) | ((with_reducible refine gate_callee (f := 51) rfl ?_); refine goesL_ (some 5) rfl rfl Tryz.func51 (by kernel_rfl) rfl #[.string a0_0] rfl mS ?_; (with_reducible refine (foghornref10_Name.calls k a0_0 true _ A2.out).mono ?_); rintro e w' ⟨rfl, ⟨nd, rfl⟩⟩; refine ⟨_, rfl, ?_⟩) | (go_at_call 113; (with_reducible refine (foghornref06_Right.calls a0_1 a0_2 a0_3 true _ A7.out).mono ?_); rintro e w28 ⟨rfl, hb⟩; have n0_ := aA (bB BK156.out hb); have n1_ := aA (below_step (mD1 GE156.out) hb); clear BK156 HB; have BK156 := n0_; have HB := n1_; clear n0_ n1_; (try clear hb); (try clear hb2); (try clear hk); (try clear hi); obtain ⟨hcz29_0, hcz29_1, hcz29_2, hcz29_3, hcz29_4, hcz29_5, hcz29_6, hcz29_7, hcz29_8⟩ := bC9 BK156.out; obtain ⟨hfz29_0, hfz29_1, hfz29_2, hfz29_3, hfz29_4, hfz29_5, hfz29_6, hfz29_7, hfz29_8⟩ := bF9 BK156.out))
      go_ret
      exact ⟨by first | rfl | (simp [errW_none, errW_some] <;> rfl) | (simp [*, errW_none, errW_some] <;> rfl), by repeat (first | (with_reducible first | exact HB.out | apply below_alloc | apply pw_below_drewN | apply below_drew1 | refine below_set ?_ GE156.out) | exact HB.out)⟩
    ·rw [if_neg c9] at H
     have c9b0 : decide (1 ≤ a0_4) = false := decide_eq_false c9
     clear c9
     obtain rfl := Option.some.inj H
     go_enter Tryz.func68, Tryz.ntmps68
     go_wp2_with (first | ((with_reducible refine gate_dst (N := 1) rfl ?_); refine box_event ?hg (N := 1) ?hd (cs := #[.string a0_0, .int .i64 a0_1, .int .i64 a0_2, .int .i64 a0_3, .int .i64 a0_4, .int .i64 a0_5, .int .i64 a0_6, .int .i64 a0_7, .int .i64 a0_8]) (t := 90) ?hr ?_; (case hd => rfl); (case hg => rfl); (case hr => first | (go_simp; done) | (go_simp; rfl)); intro gb156 hg w30 hbox hb; have n0_ := aA (below_step mB hb); have n1_ := aA (hbox); have n2_ := aA ((bZ hg mB)); have n3_ := aA ((bZ hg mB)); clear HB; have HB := n0_; have BK156 := n1_; have GW156 := n2_; have GE156 := n3_; clear n0_ n1_ n2_ n3_ hb hbox hg; obtain ⟨hcz31_0, hcz31_1, hcz31_2, hcz31_3, hcz31_4, hcz31_5, hcz31_6, hcz31_7, hcz31_8⟩ := bC9 BK156.out; obtain ⟨hfz31_0, hfz31_1, hfz31_2, hfz31_3, hfz31_4, hfz31_5, hfz31_6, hfz31_7, hfz31_8⟩ := bF9 BK156.out) | ((with_reducible refine gate_callee (f := 51) rfl ?_); refine goesL_ (some 5) rfl rfl Tryz.func51 (by kernel_rfl) rfl #[.string a0_0] rfl mS ?_; (with_reducible refine (foghornref10_Name.calls k a0_0 true _ A2.out).mono ?_); rintro e w' ⟨rfl, ⟨nd, rfl⟩⟩; refine ⟨_, rfl, ?_⟩) | (go_at_call 113; (with_reducible refine (foghornref06_Right.calls a0_1 a0_2 a0_3 true _ A7.out).mono ?_); rintro e w32 ⟨rfl, hb⟩; have n0_ := aA (bB BK156.out hb); have n1_ := aA (below_step (mD1 GE156.out) hb); clear BK156 HB; have BK156 := n0_; have HB := n1_; clear n0_ n1_; (try clear hb); (try clear hb2); (try clear hk); (try clear hi); obtain ⟨hcz33_0, hcz33_1, hcz33_2, hcz33_3, hcz33_4, hcz33_5, hcz33_6, hcz33_7, hcz33_8⟩ := bC9 BK156.out; obtain ⟨hfz33_0, hfz33_1, hfz33_2, hfz33_3, hfz33_4, hfz33_5, hfz33_6, hfz33_7, hfz33_8⟩ := bF9 BK156.out))
     go_ret
     exact ⟨by first | rfl | (simp [errW_none, errW_some] <;> rfl) | (simp [*, errW_none, errW_some] <;> rfl), by repeat (first | (with_reducible first | exact HB.out | apply below_alloc | apply pw_below_drewN | apply below_drew1 | refine below_set ?_ GE156.out) | exact HB.out)⟩
   ·replace c8 := Bool.eq_false_iff.mpr c8
    subst c8
    have H1 : (some false) = some r := by rw [if_neg (show ¬ (false = true) by decide)] at H; exact H
    clear H
    have H := H1
    clear H1
    obtain rfl := Option.some.inj H
    go_enter Tryz.func68, Tryz.ntmps68
    go_wp2_with (first | ((with_reducible refine gate_dst (N := 1) rfl ?_); refine box_event ?hg (N := 1) ?hd (cs := #[.string a0_0, .int .i64 a0_1, .int .i64 a0_2, .int .i64 a0_3, .int .i64 a0_4, .int .i64 a0_5, .int .i64 a0_6, .int .i64 a0_7, .int .i64 a0_8]) (t := 90) ?hr ?_; (case hd => rfl); (case hg => rfl); (case hr => first | (go_simp; done) | (go_simp; rfl)); intro gb156 hg w34 hbox hb; have n0_ := aA (below_step mB hb); have n1_ := aA (hbox); have n2_ := aA ((bZ hg mB)); have n3_ := aA ((bZ hg mB)); clear HB; have HB := n0_; have BK156 := n1_; have GW156 := n2_; have GE156 := n3_; clear n0_ n1_ n2_ n3_ hb hbox hg; obtain ⟨hcz35_0, hcz35_1, hcz35_2, hcz35_3, hcz35_4, hcz35_5, hcz35_6, hcz35_7, hcz35_8⟩ := bC9 BK156.out; obtain ⟨hfz35_0, hfz35_1, hfz35_2, hfz35_3, hfz35_4, hfz35_5, hfz35_6, hfz35_7, hfz35_8⟩ := bF9 BK156.out) | ((with_reducible refine gate_callee (f := 51) rfl ?_); refine goesL_ (some 5) rfl rfl Tryz.func51 (by kernel_rfl) rfl #[.string a0_0] rfl mS ?_; (with_reducible refine (foghornref10_Name.calls k a0_0 true _ A2.out).mono ?_); rintro e w' ⟨rfl, ⟨nd, rfl⟩⟩; refine ⟨_, rfl, ?_⟩) | (go_at_call 113; (with_reducible refine (foghornref06_Right.calls a0_1 a0_2 a0_3 false _ A7.out).mono ?_); rintro e w36 ⟨rfl, hb⟩; have n0_ := aA (bB BK156.out hb); have n1_ := aA (below_step (mD1 GE156.out) hb); clear BK156 HB; have BK156 := n0_; have HB := n1_; clear n0_ n1_; (try clear hb); (try clear hb2); (try clear hk); (try clear hi)))
    go_ret
    exact ⟨by first | rfl | (simp [errW_none, errW_some] <;> rfl) | (simp [*, errW_none, errW_some] <;> rfl), by repeat (first | (with_reducible first | exact HB.out | apply below_alloc | apply pw_below_drewN | apply below_drew1 | refine below_set ?_ GE156.out) | exact HB.out)⟩
 ·replace c3 := Bool.eq_false_iff.mpr c3
  subst c3
  have H1 : (some false) = some r := by rw [if_neg (show ¬ (false = true) by decide)] at H; exact H
  clear H
  have H := H1
  clear H1
  obtain rfl := Option.some.inj H
  go_enter Tryz.func68, Tryz.ntmps68
  go_wp2_with (first | ((with_reducible refine gate_dst (N := 1) rfl ?_); refine box_event ?hg (N := 1) ?hd (cs := #[.string a0_0, .int .i64 a0_1, .int .i64 a0_2, .int .i64 a0_3, .int .i64 a0_4, .int .i64 a0_5, .int .i64 a0_6, .int .i64 a0_7, .int .i64 a0_8]) (t := 90) ?hr ?_; (case hd => rfl); (case hg => rfl); (case hr => first | (go_simp; done) | (go_simp; rfl)); intro gb156 hg w37 hbox hb; have n0_ := aA (below_step mB hb); have n1_ := aA (hbox); have n2_ := aA ((bZ hg mB)); have n3_ := aA ((bZ hg mB)); clear HB; have HB := n0_; have BK156 := n1_; have GW156 := n2_; have GE156 := n3_; clear n0_ n1_ n2_ n3_ hb hbox hg; obtain ⟨hcz38_0, hcz38_1, hcz38_2, hcz38_3, hcz38_4, hcz38_5, hcz38_6, hcz38_7, hcz38_8⟩ := bC9 BK156.out; obtain ⟨hfz38_0, hfz38_1, hfz38_2, hfz38_3, hfz38_4, hfz38_5, hfz38_6, hfz38_7, hfz38_8⟩ := bF9 BK156.out) | ((with_reducible refine gate_callee (f := 51) rfl ?_); refine goesL_ (some 5) rfl rfl Tryz.func51 (by kernel_rfl) rfl #[.string a0_0] rfl mS ?_; (with_reducible refine (foghornref10_Name.calls k a0_0 false _ A2.out).mono ?_); rintro e w' ⟨rfl, ⟨nd, rfl⟩⟩; refine ⟨_, rfl, ?_⟩))
  go_ret
  exact ⟨by first | rfl | (simp [errW_none, errW_some] <;> rfl) | (simp [*, errW_none, errW_some] <;> rfl), by repeat (first | (with_reducible first | exact HB.out | apply below_alloc | apply pw_below_drewN | apply below_drew1 | refine below_set ?_ GE156.out) | exact HB.out)⟩
end Go.Proofs.YtjfknmlchdifjaaGreatDoorQ.P
namespace Go.Proofs.YtjfknmlchdifjaaGreatDoorQ.P
open Go.RowKit Go.Proofs.YtjfknmlchdifjaaGreatDoorW.PrintWords Go.Proofs.YtjfknmlchdifjaaGreatDoorW.PrintLast Go.Proofs.YtjfknmlchdifjaaGreatDoorW.PrintMore
attribute [local go_sem] max2_int min2_int max_two min_two max_three min_three max_four min_four
def foghornref13_place.l0 : Nat → ByteArray → List (S90) → Int → Int → Option (Int)
 | 0, _, _, _, _ => none
 | k + 1, x1, x7, x8, x9 => if x9 < x8 then (if 0 ≤ x9 then (if x9 < (x7.length : Int) then (if ((rd_T90 x7 x9).f0).toList = x1.toList then (some x9) else (foghornref13_place.l0 k x1 x7 x8 (wrap64 (x9 + 1)))) else (none)) else (none)) else (some (-1))
def foghornref13_place.f (k : Nat) (l0 : List (S90)) (a1 : ByteArray) : Option (Int) := foghornref13_place.l0 k a1 l0 (l0.length : Int) 0
set_option maxHeartbeats 8000000 in
set_option maxRecDepth 100000 in
theorem foghornref13_place.calls (k : Nat) (A0 : Option Addr) (c0 : Nat) (l0 : List (S90)) (a1 : ByteArray) (r : Int) (w : World) (hr0 : Kd.C k90 w A0 l0.length l0) (hc0 : l0.length ≤ c0) (h : foghornref13_place.f k l0 a1 = some r) :
  Calls Tryz.prog 69 #[.slice A0 l0.length c0, .string a1] w fun e w' => e = .returned (.int .i64 r) ∧ Below w.heap.size w w' := by
 have hu90 := Tryz.underlying90
 have HR0 := aA hr0
 have HC0 := aA hc0
 clear hr0 hc0
 have HB := aA (Below.refl w.heap.size w)
 have H : (foghornref13_place.l0 k a1 l0 (l0.length : Int) 0) = some r := h
 clear h
 have H' := aA H
 clear H
 go_enter Tryz.func69, Tryz.ntmps69
 go_wp2
 go_loopg [9] k (fun kq v9 w' => ∃ (x9_1 : Int), v9 = .int .i64 x9_1 ∧ Aside0 (foghornref13_place.l0 kq a1 l0 (l0.length : Int) x9_1 = some r) ∧ Aside0 (kq ≤ k) ∧ Aside0 (Below w.heap.size w w'))
 case atStart => exact ⟨(0), (by first | rfl | (simp; done) | (simp [*]; done)), H', ⟨Nat.le_refl _⟩, ⟨by repeat (first | (with_reducible first | exact HB.out | apply below_alloc | apply pw_below_drewN | apply below_drew1) | exact HB.out)⟩⟩
 case round =>
  clear H'
  try clear p2
  obtain ⟨x9_1, rfl, HA, HK1, HB⟩ := hrel
  cases gk with
  | zero => exact absurd HA.out (by simp [foghornref13_place.l0])
  | succ k1 =>
   have H := HA.out
   clear HA
   simp only [foghornref13_place.l0] at H
   by_cases c3 : x9_1 < (l0.length : Int)
   ·rw [if_pos c3] at H
    have c3b0 : decide (x9_1 < (l0.length : Int)) = true := decide_eq_true c3
    clear c3
    by_cases c4 : 0 ≤ x9_1
    ·rw [if_pos c4] at H
     have c4b0 : decide (0 ≤ x9_1) = true := decide_eq_true c4
     clear c4
     by_cases c5 : x9_1 < (l0.length : Int)
     ·rw [if_pos c5] at H
      have c5b0 : decide (x9_1 < (l0.length : Int)) = true := decide_eq_true c5
      clear c5
      by_cases c6 : ((rd_T90 l0 x9_1).f0).toList = a1.toList
      ·rw [if_pos c6] at H
       have c6b0 : (((rd_T90 l0 x9_1).f0).toList == a1.toList) = true := beq_iff_eq.mpr c6
       have c6b1 : (((rd_T90 l0 x9_1).f0).toList != a1.toList) = false := bne_eq_false_iff_eq.mpr c6
       clear c6
       obtain rfl := Option.some.inj H
       have p161 : 0 ≤ (x9_1 : Int) := of_decide_eq_true (by first | (with_reducible assumption) | assumption)
       have q161 : x9_1 < (l0.length : Int) := of_decide_eq_true (by first | (with_reducible assumption) | assumption)
       obtain ⟨ad161, e161, hx161_0, hx161_1, hx161_2, hx161_3, hx161_4, hx161_5, hx161_6, hx161_7, hx161_8⟩ := at_T90 HR0.out x9_1 p161 q161
       cases e161
       replace hx161_0 := (HB.out.cell (World.block_lt_of_cell? w _ hx161_0)).trans hx161_0
       replace hx161_1 := (HB.out.cell (World.block_lt_of_cell? w _ hx161_1)).trans hx161_1
       replace hx161_2 := (HB.out.cell (World.block_lt_of_cell? w _ hx161_2)).trans hx161_2
       replace hx161_3 := (HB.out.cell (World.block_lt_of_cell? w _ hx161_3)).trans hx161_3
       replace hx161_4 := (HB.out.cell (World.block_lt_of_cell? w _ hx161_4)).trans hx161_4
       replace hx161_5 := (HB.out.cell (World.block_lt_of_cell? w _ hx161_5)).trans hx161_5
       replace hx161_6 := (HB.out.cell (World.block_lt_of_cell? w _ hx161_6)).trans hx161_6
       replace hx161_7 := (HB.out.cell (World.block_lt_of_cell? w _ hx161_7)).trans hx161_7
       replace hx161_8 := (HB.out.cell (World.block_lt_of_cell? w _ hx161_8)).trans hx161_8
       replace p161 := eq_true p161
       replace q161 := eq_true q161
       go_wp2_with (first | ((with_reducible refine gate_dst (N := 6) rfl ?_); refine box_event ?hg (N := 6) ?hd (cs := #[.string (⟨#[]⟩ : ByteArray), .int .i64 0, .int .i64 0, .int .i64 0, .int .i64 0, .int .i64 0, .int .i64 0, .int .i64 0, .int .i64 0]) (t := 90) ?hr ?_; (case hd => rfl); (case hg => rfl); (case hr => first | (go_simp; done) | (go_simp; rfl)); intro gb162 hg w7 hbox hb; have n0_ := aA (below_step mB hb); have n1_ := aA (hbox); have n2_ := aA ((bZ hg mB)); have n3_ := aA ((bZ hg mB)); clear HB; have HB := n0_; have BK162 := n1_; have GW162 := n2_; have GE162 := n3_; clear n0_ n1_ n2_ n3_ hb hbox hg; obtain ⟨hcz8_0, hcz8_1, hcz8_2, hcz8_3, hcz8_4, hcz8_5, hcz8_6, hcz8_7, hcz8_8⟩ := bC9 BK162.out; obtain ⟨hfz8_0, hfz8_1, hfz8_2, hfz8_3, hfz8_4, hfz8_5, hfz8_6, hfz8_7, hfz8_8⟩ := bF9 BK162.out))
       go_ret
       exact ⟨by first | rfl | (simp [errW_none, errW_some] <;> rfl) | (simp [*, errW_none, errW_some] <;> rfl), by repeat (first | (with_reducible first | exact HB.out | apply below_alloc | apply pw_below_drewN | apply below_drew1 | refine below_set ?_ GE162.out) | exact HB.out)⟩
      ·rw [if_neg c6] at H
       have c6b0 : (((rd_T90 l0 x9_1).f0).toList == a1.toList) = false := beq_eq_false_iff_ne.mpr c6
       have c6b1 : (((rd_T90 l0 x9_1).f0).toList != a1.toList) = true := bne_iff_ne.mpr c6
       have H' := aA H
       clear H
       have p161 : 0 ≤ (x9_1 : Int) := of_decide_eq_true (by first | (with_reducible assumption) | assumption)
       have q161 : x9_1 < (l0.length : Int) := of_decide_eq_true (by first | (with_reducible assumption) | assumption)
       obtain ⟨ad161, e161, hx161_0, hx161_1, hx161_2, hx161_3, hx161_4, hx161_5, hx161_6, hx161_7, hx161_8⟩ := at_T90 HR0.out x9_1 p161 q161
       cases e161
       replace hx161_0 := (HB.out.cell (World.block_lt_of_cell? w _ hx161_0)).trans hx161_0
       replace hx161_1 := (HB.out.cell (World.block_lt_of_cell? w _ hx161_1)).trans hx161_1
       replace hx161_2 := (HB.out.cell (World.block_lt_of_cell? w _ hx161_2)).trans hx161_2
       replace hx161_3 := (HB.out.cell (World.block_lt_of_cell? w _ hx161_3)).trans hx161_3
       replace hx161_4 := (HB.out.cell (World.block_lt_of_cell? w _ hx161_4)).trans hx161_4
       replace hx161_5 := (HB.out.cell (World.block_lt_of_cell? w _ hx161_5)).trans hx161_5
       replace hx161_6 := (HB.out.cell (World.block_lt_of_cell? w _ hx161_6)).trans hx161_6
       replace hx161_7 := (HB.out.cell (World.block_lt_of_cell? w _ hx161_7)).trans hx161_7
       replace hx161_8 := (HB.out.cell (World.block_lt_of_cell? w _ hx161_8)).trans hx161_8
       replace p161 := eq_true p161
       replace q161 := eq_true q161
       go_wp2_with (first | ((with_reducible refine gate_dst (N := 6) rfl ?_); refine box_event ?hg (N := 6) ?hd (cs := #[.string (⟨#[]⟩ : ByteArray), .int .i64 0, .int .i64 0, .int .i64 0, .int .i64 0, .int .i64 0, .int .i64 0, .int .i64 0, .int .i64 0]) (t := 90) ?hr ?_; (case hd => rfl); (case hg => rfl); (case hr => first | (go_simp; done) | (go_simp; rfl)); intro gb162 hg w9 hbox hb; have n0_ := aA (below_step mB hb); have n1_ := aA (hbox); have n2_ := aA ((bZ hg mB)); have n3_ := aA ((bZ hg mB)); clear HB; have HB := n0_; have BK162 := n1_; have GW162 := n2_; have GE162 := n3_; clear n0_ n1_ n2_ n3_ hb hbox hg; obtain ⟨hcz10_0, hcz10_1, hcz10_2, hcz10_3, hcz10_4, hcz10_5, hcz10_6, hcz10_7, hcz10_8⟩ := bC9 BK162.out; obtain ⟨hfz10_0, hfz10_1, hfz10_2, hfz10_3, hfz10_4, hfz10_5, hfz10_6, hfz10_7, hfz10_8⟩ := bF9 BK162.out))
       go_roundg k1
       case measure => have := HK1.out; omega
       case rel => exact ⟨(wrap64 (x9_1 + 1)), (by first | rfl | (simp; done) | (simp [*]; done)), H', ⟨by have := HK1.out; omega⟩, ⟨by repeat (first | (with_reducible first | exact HB.out | apply below_alloc | apply pw_below_drewN | apply below_drew1 | refine below_set ?_ GE162.out) | exact HB.out)⟩⟩
     ·rw [if_neg c5] at H
      exact absurd H (by simp)
    ·rw [if_neg c4] at H
     exact absurd H (by simp)
   ·rw [if_neg c3] at H
    have c3b0 : decide (x9_1 < (l0.length : Int)) = false := decide_eq_false c3
    clear c3
    obtain rfl := Option.some.inj H
    go_wp2
    go_ret
    exact ⟨by first | rfl | (simp [errW_none, errW_some] <;> rfl) | (simp [*, errW_none, errW_some] <;> rfl), by repeat (first | (with_reducible first | exact HB.out | apply below_alloc | apply pw_below_drewN | apply below_drew1) | exact HB.out)⟩
end Go.Proofs.YtjfknmlchdifjaaGreatDoorQ.P
namespace Go.Proofs.YtjfknmlchdifjaaGreatDoorQ.P
open Go.RowKit Go.Proofs.YtjfknmlchdifjaaGreatDoorW.PrintWords Go.Proofs.YtjfknmlchdifjaaGreatDoorW.PrintLast Go.Proofs.YtjfknmlchdifjaaGreatDoorW.PrintMore
attribute [local go_sem] max2_int min2_int max_two min_two max_three min_three max_four min_four
mutual
def foghornref13_route.l0 : Nat → Int → List Int → Int → Int → List Int → List (S32) → Option (Bool)
 | 0, _, _, _, _, _, _ => none
 | k + 1, x1, x10, x11, x12, x164000, x164001 => if x12 < x11 then (if 0 ≤ x12 then (if x12 < (x10.length : Int) then (if (rd x10 x12) < 0 then (foghornref13_route.j1 k x1 x12 (rd x10 x12) x10 x11 x12 true x164000 x164001) else (foghornref13_route.j1 k x1 x12 (rd x10 x12) x10 x11 x12 (decide ((rd x10 x12) ≥ x1)) x164000 x164001)) else (none)) else (none)) else (if (x164000.length : Int) ≥ 1 then (if (x164000.length : Int) ≤ 4 then ((foghornref10_Matchers.f x164001).bind fun t164 => (some t164)) else (some false)) else (some false))
def foghornref13_route.j1 : Nat → Int → Int → Int → List Int → Int → Int → Bool → List Int → List (S32) → Option (Bool)
 | 0, _, _, _, _, _, _, _, _, _ => none
 | k + 1, x1, x5, x6, x10, x11, x12, x23, x164000, x164001 => if x23 = true then (some false) else (if 0 ≤ x5 then (if x5 ≤ (x164000.length : Int) then (foghornref13_route.l1 k x1 x6 x10 x11 x12 (x164000.take (x5 : Int).toNat) ((x164000.take (x5 : Int).toNat).length : Int) 0 x164000 x164001) else (none)) else (none))
def foghornref13_route.l1 : Nat → Int → Int → List Int → Int → Int → List Int → Int → Int → List Int → List (S32) → Option (Bool)
 | 0, _, _, _, _, _, _, _, _, _, _ => none
 | k + 1, x1, x6, x10, x11, x12, x27, x28, x29, x164000, x164001 => if x29 < x28 then (if 0 ≤ x29 then (if x29 < (x27.length : Int) then (if (rd x27 x29) = x6 then (some false) else (foghornref13_route.l1 k x1 x6 x10 x11 x12 x27 x28 (wrap64 (x29 + 1)) x164000 x164001)) else (none)) else (none)) else (foghornref13_route.l0 k x1 x10 x11 (wrap64 (x12 + 1)) x164000 x164001)
end
def foghornref13_route.f (k : Nat) (l0_0 : List Int) (l0_1 : List (S32)) (a1 : Int) : Option (Bool) := foghornref13_route.l0 k a1 l0_0 (l0_0.length : Int) 0 l0_0 l0_1
set_option maxHeartbeats 8000000 in
set_option maxRecDepth 100000 in
theorem foghornref13_route.calls (k : Nat) (A0_0 : Option Addr) (c0_0 : Nat) (l0_0 : List Int) (A0_1 : Option Addr) (c0_1 : Nat) (l0_1 : List (S32)) (a1 : Int) (r : Bool) (w : World) (hr0_0 : Kd.C (Kd.int .i64) w A0_0 l0_0.length l0_0) (hc0_0 : l0_0.length ≤ c0_0) (hr0_1 : Kd.C k32 w A0_1 l0_1.length l0_1) (hc0_1 : l0_1.length ≤ c0_1) (h : foghornref13_route.f k l0_0 l0_1 a1 = some r) :
  Calls Tryz.prog 70 #[.agg #[.slice A0_0 l0_0.length c0_0, .slice A0_1 l0_1.length c0_1], .int .i64 a1] w fun e w' => e = .returned (.bool r) ∧ Below w.heap.size w w' := by
 have hu93 := Tryz.underlying93
 have HR0_0 := aA hr0_0
 have HC0_0 := aA hc0_0
 clear hr0_0 hc0_0
 have HR0_1 := aA hr0_1
 have HC0_1 := aA hc0_1
 clear hr0_1 hc0_1
 have HB := aA (Below.refl w.heap.size w)
 have H : (foghornref13_route.l0 k a1 l0_0 (l0_0.length : Int) 0 l0_0 l0_1) = some r := h
 clear h
 have H' := aA H
 clear H
 go_enter Tryz.func70, Tryz.ntmps70
 go_wp2_with (first | ((with_reducible refine gate_dst (N := 2) rfl ?_); (try (refine gate_guard (by rfl) ?_; dsimp only)); refine box_event ?hg (N := 2) ?hd (cs := #[.slice A0_0 l0_0.length c0_0, .slice A0_1 l0_1.length c0_1]) (t := 93) ?hr ?_; (case hd => rfl); (case hg => rfl); (case hr => first | (go_simp; done) | (go_simp; rfl)); intro gb163 hg w3 hbox hb; have n0_ := aA (below_step mB hb); have n1_ := aA (hbox); have n2_ := aA ((bZ hg mB)); have n3_ := aA ((bZ hg mB)); clear HB; have HB := n0_; have BK163 := n1_; have GW163 := n2_; have GE163 := n3_; clear n0_ n1_ n2_ n3_ hb hbox hg; obtain ⟨hcz4_0, hcz4_1⟩ := bC2 BK163.out; obtain ⟨hfz4_0, hfz4_1⟩ := bF2 BK163.out))
 go_loopg [12] k (fun kq v12 w' => ∃ (x12_1 : Int), v12 = .int .i64 x12_1 ∧ Aside0 (foghornref13_route.l0 kq a1 l0_0 (l0_0.length : Int) x12_1 l0_0 l0_1 = some r) ∧ Aside0 (kq ≤ k) ∧ Aside0 (w'.heap[gb163]? = some (.cells #[(.slice A0_0 l0_0.length c0_0), (.slice A0_1 l0_1.length c0_1)] 93 (0, 0))) ∧ Aside0 (Below w.heap.size w w'))
 case atStart => exact ⟨(0), (by first | rfl | (simp; done) | (simp [*]; done)), H', ⟨Nat.le_refl _⟩, ⟨by (with_reducible repeat (first | refine blk_drewN ?_ _ | refine blk_drew ?_ | refine blk_alloc ?_ _)); exact BK163.out⟩, ⟨by repeat (first | (with_reducible first | exact HB.out | apply below_alloc | apply pw_below_drewN | apply below_drew1 | refine below_set ?_ GE163.out) | exact HB.out)⟩⟩
 case round =>
  clear H'
  try clear p2
  try clear hcz4_0 hcz4_1
  try clear hfz4_0 hfz4_1
  obtain ⟨x12_1, rfl, HA, HK1, BK163, HB⟩ := hrel
  cases gk with
  | zero => exact absurd HA.out (by simp [foghornref13_route.l0])
  | succ k1 =>
   have H := HA.out
   clear HA
   simp only [foghornref13_route.l0] at H
   by_cases c5 : x12_1 < (l0_0.length : Int)
   ·rw [if_pos c5] at H
    have c5b0 : decide (x12_1 < (l0_0.length : Int)) = true := decide_eq_true c5
    clear c5
    by_cases c6 : 0 ≤ x12_1
    ·rw [if_pos c6] at H
     have c6b0 : decide (0 ≤ x12_1) = true := decide_eq_true c6
     clear c6
     by_cases c7 : x12_1 < (l0_0.length : Int)
     ·rw [if_pos c7] at H
      have c7b0 : decide (x12_1 < (l0_0.length : Int)) = true := decide_eq_true c7
      clear c7
      have HC8 := aA H
      clear H
      have p165 : 0 ≤ (x12_1 : Int) := of_decide_eq_true (by first | (with_reducible assumption) | assumption)
      have q165 : x12_1 < (l0_0.length : Int) := of_decide_eq_true (by first | (with_reducible assumption) | assumption)
      obtain ⟨ad165, e165, hx165_0⟩ := Kd.at_int HR0_0.out x12_1 p165 q165
      cases e165
      replace hx165_0 := (HB.out.cell (World.block_lt_of_cell? w _ hx165_0)).trans hx165_0
      replace p165 := eq_true p165
      replace q165 := eq_true q165
      go_upto_region 4 with (fail)
      go_cut [23] (fun v23 wc => ∃ (kq : Nat) (x23_7 : Bool), v23 = .bool x23_7 ∧ Aside0 (foghornref13_route.j1 kq a1 x12_1 (rd l0_0 x12_1) l0_0 (l0_0.length : Int) x12_1 x23_7 l0_0 l0_1 = some r) ∧ Aside0 (kq ≤ k1) ∧ Aside0 (wc.heap[gb163]? = some (.cells #[(.slice (some ad165) l0_0.length c0_0), (.slice A0_1 l0_1.length c0_1)] 93 (0, 0))) ∧ Aside0 (Below w.heap.size w wc))
      case first =>
       have H := HC8.out
       clear HC8
       by_cases c9 : (rd l0_0 x12_1) < 0
       ·rw [if_pos c9] at H
        have c9b0 : decide ((rd l0_0 x12_1) < 0) = true := decide_eq_true c9
        clear c9
        (first | rw [c9b0] | (simp only [i64_w, i32_w]; rw [c9b0]) | skip)
        have H' := aA H
        clear H
        go_wp2
        go_meet
        case rel => exact ⟨_, (true), (by first | rfl | (simp; done) | (simp [*]; done)), H', ⟨by have := HK1.out; first | omega | exact Nat.le_refl _⟩, ⟨by (with_reducible repeat (first | refine blk_drewN ?_ _ | refine blk_drew ?_ | refine blk_alloc ?_ _)); exact BK163.out⟩, ⟨by repeat (first | (with_reducible first | exact HB.out | apply below_alloc | apply pw_below_drewN | apply below_drew1 | refine below_set ?_ GE163.out) | exact HB.out)⟩⟩
       ·rw [if_neg c9] at H
        have c9b0 : decide ((rd l0_0 x12_1) < 0) = false := decide_eq_false c9
        clear c9
        (first | rw [c9b0] | (simp only [i64_w, i32_w]; rw [c9b0]) | skip)
        have H' := aA H
        clear H
        go_wp2
        go_meet
        case rel => exact ⟨_, (decide ((rd l0_0 x12_1) ≥ a1)), (by first | rfl | (simp; done) | (simp [*]; done)), H', ⟨by have := HK1.out; first | omega | exact Nat.le_refl _⟩, ⟨by (with_reducible repeat (first | refine blk_drewN ?_ _ | refine blk_drew ?_ | refine blk_alloc ?_ _)); exact BK163.out⟩, ⟨by repeat (first | (with_reducible first | exact HB.out | apply below_alloc | apply pw_below_drewN | apply below_drew1 | refine below_set ?_ GE163.out) | exact HB.out)⟩⟩
      case rest =>
       clear HC8
       try clear p1
       try clear q1
       try clear hx1
       try clear p2
       try clear c5
       try clear c5b0
       try clear c6
       try clear c6b0
       try clear c7
       try clear c7b0
       try clear c9
       try clear c9b0
       try clear hcz4_0 hcz4_1
       try clear hfz4_0 hfz4_1
       try clear hx165_0
       try clear p165
       try clear p2
       try clear q165
       obtain ⟨kq, x23_7, rfl, HA, HJ7, BK163, HB⟩ := hcut
       cases kq with
       | zero => exact absurd HA.out (by simp [foghornref13_route.j1])
       | succ kj7 =>
        have H := HA.out
        clear HA
        simp only [foghornref13_route.j1] at H
        by_cases c10 : x23_7 = true
        ·subst c10
         have H1 : (some false) = some r := by rw [if_pos rfl] at H; exact H
         clear H
         have H := H1
         clear H1
         obtain rfl := Option.some.inj H
         go_wp2
         go_ret
         exact ⟨by first | rfl | (simp [errW_none, errW_some] <;> rfl) | (simp [*, errW_none, errW_some] <;> rfl), by repeat (first | (with_reducible first | exact HB.out | apply below_alloc | apply pw_below_drewN | apply below_drew1 | refine below_set ?_ GE163.out) | exact HB.out)⟩
        ·replace c10 := Bool.eq_false_iff.mpr c10
         subst c10
         have H1 : (if 0 ≤ x12_1 then (if x12_1 ≤ (l0_0.length : Int) then (foghornref13_route.l1 kj7 a1 (rd l0_0 x12_1) l0_0 (l0_0.length : Int) x12_1 (l0_0.take (x12_1 : Int).toNat) ((l0_0.take (x12_1 : Int).toNat).length : Int) 0 l0_0 l0_1) else (none)) else (none)) = some r := by rw [if_neg (show ¬ (false = true) by decide)] at H; exact H
         clear H
         have H := H1
         clear H1
         by_cases c11 : 0 ≤ x12_1
         ·rw [if_pos c11] at H
          have c11b0 := eq_true c11
          have c11b1 := decide_eq_true c11
          clear c11
          by_cases c12 : x12_1 ≤ (l0_0.length : Int)
          ·rw [if_pos c12] at H
           have c12b0 := eq_true c12
           have c12b1 := decide_eq_true c12
           clear c12
           have H' := aA H
           clear H
           obtain ⟨hcz13_0, hcz13_1⟩ := bC2 BK163.out
           obtain ⟨hfz13_0, hfz13_1⟩ := bF2 BK163.out
           obtain ⟨i014, hi014, _, hsz14, _⟩ := info_parts info3
           obtain ⟨hcut14, hA14, hC14⟩ := print_take_of (P := Tryz.prog) (Value.int .i64) 0 91 3 .i64 Tryz.underlying91 hi014 hsz14 (some ad165) c0_0 l0_0 x12_1 (of_decide_eq_true (by first | (with_reducible assumption) | assumption)) (of_decide_eq_true (by first | (with_reducible assumption) | assumption)) HC0_0.out
           have HR166 := aA (Kd.C_of_reads (h1 := fun _ => rfl) (hA14 _ (Kd.reads_of_C HR0_0.out)))
           have HC166 := aA hC14
           clear hA14 hC14 hi014 hsz14
           go_wp2
           go_loopg [29] kj7 (fun kq v29 w' => ∃ (x29_3 : Int), v29 = .int .i64 x29_3 ∧ Aside0 (foghornref13_route.l1 kq a1 (rd l0_0 x12_1) l0_0 (l0_0.length : Int) x12_1 (l0_0.take (x12_1 : Int).toNat) ((l0_0.take (x12_1 : Int).toNat).length : Int) x29_3 l0_0 l0_1 = some r) ∧ Aside0 (kq ≤ kj7) ∧ Aside0 (w'.heap[gb163]? = some (.cells #[(.slice (some ad165) l0_0.length c0_0), (.slice A0_1 l0_1.length c0_1)] 93 (0, 0))) ∧ Aside0 (Below w.heap.size w w'))
           case atStart => exact ⟨(0), (by first | rfl | (simp; done) | (simp [*]; done)), H', ⟨Nat.le_refl _⟩, ⟨by (with_reducible repeat (first | refine blk_drewN ?_ _ | refine blk_drew ?_ | refine blk_alloc ?_ _)); exact BK163.out⟩, ⟨by repeat (first | (with_reducible first | exact HB.out | apply below_alloc | apply pw_below_drewN | apply below_drew1 | refine below_set ?_ GE163.out) | exact HB.out)⟩⟩
           case round =>
            clear H'
            try clear c1
            try clear p1
            try clear q1
            try clear hx1
            try clear p2
            try clear c5
            try clear c5b0
            try clear c6
            try clear c6b0
            try clear c7
            try clear c7b0
            try clear c9
            try clear c9b0
            try clear c10
            try clear c11
            try clear c11b0
            try clear c11b1
            try clear c12
            try clear c12b0
            try clear hcz13_0 hcz13_1
            try clear hcz4_0 hcz4_1
            try clear hfz13_0 hfz13_1
            try clear hfz4_0 hfz4_1
            try clear hx165_0
            try clear p1
            try clear p165
            try clear p2
            try clear q1
            try clear q165
            obtain ⟨x29_3, rfl, HA, HK3, BK163, HB⟩ := hrel
            cases gk with
            | zero => exact absurd HA.out (by simp [foghornref13_route.l1])
            | succ k3 =>
             have H := HA.out
             clear HA
             simp only [foghornref13_route.l1] at H
             by_cases c15 : x29_3 < ((l0_0.take (x12_1 : Int).toNat).length : Int)
             ·rw [if_pos c15] at H
              have c15b0 : decide (x29_3 < ((l0_0.take (x12_1 : Int).toNat).length : Int)) = true := decide_eq_true c15
              try have c15b0h : decide (x29_3 < max x12_1 0) = true := decide_eq_true (by have h_ := of_decide_eq_true c15b0; rw [List.length_take] at h_; first | (have h2_ : x12_1 ≤ (l0_0.length : Int) := of_decide_eq_true (by assumption); omega) | (have h2_ : x12_1 < (l0_0.length : Int) := of_decide_eq_true (by assumption); omega) | omega)
              clear c15
              by_cases c16 : 0 ≤ x29_3
              ·rw [if_pos c16] at H
               have c16b0 : decide (0 ≤ x29_3) = true := decide_eq_true c16
               clear c16
               by_cases c17 : x29_3 < ((l0_0.take (x12_1 : Int).toNat).length : Int)
               ·rw [if_pos c17] at H
                have c17b0 : decide (x29_3 < ((l0_0.take (x12_1 : Int).toNat).length : Int)) = true := decide_eq_true c17
                try have c17b0h : decide (x29_3 < max x12_1 0) = true := decide_eq_true (by have h_ := of_decide_eq_true c17b0; rw [List.length_take] at h_; first | (have h2_ : x12_1 ≤ (l0_0.length : Int) := of_decide_eq_true (by assumption); omega) | (have h2_ : x12_1 < (l0_0.length : Int) := of_decide_eq_true (by assumption); omega) | omega)
                clear c17
                by_cases c18 : (rd (l0_0.take (x12_1 : Int).toNat) x29_3) = (rd l0_0 x12_1)
                ·rw [if_pos c18] at H
                 have c18b0 : ((rd (l0_0.take (x12_1 : Int).toNat) x29_3) == (rd l0_0 x12_1)) = true := beq_iff_eq.mpr c18
                 have c18b1 : ((rd (l0_0.take (x12_1 : Int).toNat) x29_3) != (rd l0_0 x12_1)) = false := bne_eq_false_iff_eq.mpr c18
                 clear c18
                 obtain rfl := Option.some.inj H
                 have p167 : 0 ≤ (x29_3 : Int) := of_decide_eq_true (by first | (with_reducible assumption) | assumption)
                 have q167 : x29_3 < ((l0_0.take (x12_1 : Int).toNat).length : Int) := of_decide_eq_true (by first | (with_reducible assumption) | assumption)
                 try have q167h : (x29_3 < max x12_1 0) = True := eq_true (by have h_ := q167; rw [List.length_take] at h_; first | (have h2_ : x12_1 ≤ (l0_0.length : Int) := of_decide_eq_true (by assumption); omega) | (have h2_ : x12_1 < (l0_0.length : Int) := of_decide_eq_true (by assumption); omega) | omega)
                 obtain ⟨ad167, e167, hx167_0⟩ := Kd.at_int HR166.out x29_3 p167 q167
                 obtain rfl : ad165 = ad167 := (by injection e167)
                 replace hx167_0 := (HB.out.cell (World.block_lt_of_cell? w _ hx167_0)).trans hx167_0
                 replace p167 := eq_true p167
                 replace q167 := eq_true q167
                 go_wp2
                 go_ret
                 exact ⟨by first | rfl | (simp [errW_none, errW_some] <;> rfl) | (simp [*, errW_none, errW_some] <;> rfl), by repeat (first | (with_reducible first | exact HB.out | apply below_alloc | apply pw_below_drewN | apply below_drew1 | refine below_set ?_ GE163.out) | exact HB.out)⟩
                ·rw [if_neg c18] at H
                 have c18b0 : ((rd (l0_0.take (x12_1 : Int).toNat) x29_3) == (rd l0_0 x12_1)) = false := beq_eq_false_iff_ne.mpr c18
                 have c18b1 : ((rd (l0_0.take (x12_1 : Int).toNat) x29_3) != (rd l0_0 x12_1)) = true := bne_iff_ne.mpr c18
                 have H' := aA H
                 clear H
                 have p167 : 0 ≤ (x29_3 : Int) := of_decide_eq_true (by first | (with_reducible assumption) | assumption)
                 have q167 : x29_3 < ((l0_0.take (x12_1 : Int).toNat).length : Int) := of_decide_eq_true (by first | (with_reducible assumption) | assumption)
                 try have q167h : (x29_3 < max x12_1 0) = True := eq_true (by have h_ := q167; rw [List.length_take] at h_; first | (have h2_ : x12_1 ≤ (l0_0.length : Int) := of_decide_eq_true (by assumption); omega) | (have h2_ : x12_1 < (l0_0.length : Int) := of_decide_eq_true (by assumption); omega) | omega)
                 obtain ⟨ad167, e167, hx167_0⟩ := Kd.at_int HR166.out x29_3 p167 q167
                 obtain rfl : ad165 = ad167 := (by injection e167)
                 replace hx167_0 := (HB.out.cell (World.block_lt_of_cell? w _ hx167_0)).trans hx167_0
                 replace p167 := eq_true p167
                 replace q167 := eq_true q167
                 go_wp2
                 go_roundg k3
                 case measure => have := HK1.out; have := HJ7.out; have := HK3.out; omega
                 case rel => exact ⟨(wrap64 (x29_3 + 1)), (by first | rfl | (simp; done) | (simp [*]; done)), H', ⟨by have := HK1.out; have := HJ7.out; have := HK3.out; omega⟩, ⟨by (with_reducible repeat (first | refine blk_drewN ?_ _ | refine blk_drew ?_ | refine blk_alloc ?_ _)); exact BK163.out⟩, ⟨by repeat (first | (with_reducible first | exact HB.out | apply below_alloc | apply pw_below_drewN | apply below_drew1 | refine below_set ?_ GE163.out) | exact HB.out)⟩⟩
               ·rw [if_neg c17] at H
                exact absurd H (by simp)
              ·rw [if_neg c16] at H
               exact absurd H (by simp)
             ·rw [if_neg c15] at H
              have c15b0 : decide (x29_3 < ((l0_0.take (x12_1 : Int).toNat).length : Int)) = false := decide_eq_false c15
              try have c15b0h : decide (x29_3 < max x12_1 0) = false := decide_eq_false (by have h_ := of_decide_eq_false c15b0; rw [List.length_take] at h_; first | (have h2_ : x12_1 ≤ (l0_0.length : Int) := of_decide_eq_true (by assumption); omega) | (have h2_ : x12_1 < (l0_0.length : Int) := of_decide_eq_true (by assumption); omega) | omega)
              clear c15
              have H' := aA H
              clear H
              go_wp2
              go_roundg k3
              case measure => have := HK1.out; have := HJ7.out; have := HK3.out; omega
              case rel => exact ⟨(wrap64 (x12_1 + 1)), (by first | rfl | (simp; done) | (simp [*]; done)), H', ⟨by have := HK1.out; have := HJ7.out; have := HK3.out; omega⟩, ⟨by (with_reducible repeat (first | refine blk_drewN ?_ _ | refine blk_drew ?_ | refine blk_alloc ?_ _)); exact BK163.out⟩, ⟨by repeat (first | (with_reducible first | exact HB.out | apply below_alloc | apply pw_below_drewN | apply below_drew1 | refine below_set ?_ GE163.out) | exact HB.out)⟩⟩
          ·rw [if_neg c12] at H
           exact absurd H (by simp)
         ·rw [if_neg c11] at H
          exact absurd H (by simp)
     ·rw [if_neg c7] at H
      exact absurd H (by simp)
    ·rw [if_neg c6] at H
     exact absurd H (by simp)
   ·rw [if_neg c5] at H
    have c5b0 : decide (x12_1 < (l0_0.length : Int)) = false := decide_eq_false c5
    clear c5
    by_cases c19 : (l0_0.length : Int) ≥ 1
    ·rw [if_pos c19] at H
     have c19b0 : decide (1 ≤ (l0_0.length : Int)) = true := decide_eq_true c19
     have c19b1 : decide (1 ≤ l0_0.length) = true := decide_eq_true (by omega)
     clear c19
     by_cases c20 : (l0_0.length : Int) ≤ 4
     ·rw [if_pos c20] at H
      have c20b0 : decide ((l0_0.length : Int) ≤ 4) = true := decide_eq_true c20
      have c20b1 : decide (l0_0.length ≤ 4) = true := decide_eq_true (by omega)
      clear c20
      replace H := Option.bind_eq_some_iff.mp H
      obtain ⟨t164, A210, H⟩ := H
      have A21 := aA A210
      clear A210
      obtain rfl := Option.some.inj H
      obtain ⟨hcz22_0, hcz22_1⟩ := bC2 BK163.out
      obtain ⟨hfz22_0, hfz22_1⟩ := bF2 BK163.out
      go_wp2_with (first | (go_at_call 94; (with_reducible refine (foghornref10_Matchers.calls _ _ l0_1 t164 _ ?side1 ?side2 A21.out).mono ?_); (case side1 => exact mC ((Kd.C_below HR0_1.out HB.out))); (case side2 => exact HC0_1.out); rintro e w23 ⟨rfl, hb⟩; have n0_ := aA (bB BK163.out hb); have n1_ := aA (below_step (mD1 GE163.out) hb); clear BK163 HB; have BK163 := n0_; have HB := n1_; clear n0_ n1_; (try clear hb); (try clear hb2); (try clear hk); (try clear hi)))
      go_ret
      exact ⟨by first | rfl | (simp [errW_none, errW_some] <;> rfl) | (simp [*, errW_none, errW_some] <;> rfl), by repeat (first | (with_reducible first | exact HB.out | apply below_alloc | apply pw_below_drewN | apply below_drew1 | refine below_set ?_ GE163.out) | exact HB.out)⟩
     ·rw [if_neg c20] at H
      have c20b0 : decide ((l0_0.length : Int) ≤ 4) = false := decide_eq_false c20
      have c20b1 : decide (l0_0.length ≤ 4) = false := decide_eq_false (by omega)
      clear c20
      obtain rfl := Option.some.inj H
      obtain ⟨hcz24_0, hcz24_1⟩ := bC2 BK163.out
      obtain ⟨hfz24_0, hfz24_1⟩ := bF2 BK163.out
      go_wp2
      go_ret
      exact ⟨by first | rfl | (simp [errW_none, errW_some] <;> rfl) | (simp [*, errW_none, errW_some] <;> rfl), by repeat (first | (with_reducible first | exact HB.out | apply below_alloc | apply pw_below_drewN | apply below_drew1 | refine below_set ?_ GE163.out) | exact HB.out)⟩
    ·rw [if_neg c19] at H
     have c19b0 : decide (1 ≤ (l0_0.length : Int)) = false := decide_eq_false c19
     have c19b1 : decide (1 ≤ l0_0.length) = false := decide_eq_false (by omega)
     clear c19
     obtain rfl := Option.some.inj H
     obtain ⟨hcz25_0, hcz25_1⟩ := bC2 BK163.out
     obtain ⟨hfz25_0, hfz25_1⟩ := bF2 BK163.out
     go_wp2
     go_ret
     exact ⟨by first | rfl | (simp [errW_none, errW_some] <;> rfl) | (simp [*, errW_none, errW_some] <;> rfl), by repeat (first | (with_reducible first | exact HB.out | apply below_alloc | apply pw_below_drewN | apply below_drew1 | refine below_set ?_ GE163.out) | exact HB.out)⟩
end Go.Proofs.YtjfknmlchdifjaaGreatDoorQ.P
namespace Go.Proofs.YtjfknmlchdifjaaGreatDoorQ.P
open Go.RowKit Go.Proofs.YtjfknmlchdifjaaGreatDoorW.PrintWords Go.Proofs.YtjfknmlchdifjaaGreatDoorW.PrintLast Go.Proofs.YtjfknmlchdifjaaGreatDoorW.PrintMore
attribute [local go_sem] max2_int min2_int max_two min_two max_three min_three max_four min_four
def foghornref13_Right.T4 : Bool × List (List Nat × List Nat) := (true, [([], []), ([0], [0]), ([1], [1]), ([2, 1], [2]), ([3], [3]), ([4, 3], [3, 4]), ([3], [3]), ([5, 6, 3], [3, 5, 6]), ([3], [3]), ([8, 3], [3, 8]), ([7, 9, 3, 3], [3, 7, 9]), ([10, 3], [3, 10]), ([3, 11], [3, 11])])
def foghornref13_Right.B4 : List Nat := [0, 1, 3, 7, 15, 31, 15, 127, 15, 271, 1023, 2047, 4095]
theorem foghornref13_Right.tab4 : rtab .any (opsOf Tryz.f32 4) = foghornref13_Right.T4 := by kernel_rfl
theorem foghornref13_Right.bits4 : waitsOk foghornref13_Right.T4.2 foghornref13_Right.B4 = true := by kernel_rfl
end Go.Proofs.YtjfknmlchdifjaaGreatDoorQ.P
namespace Go.Proofs.YtjfknmlchdifjaaGreatDoorQ.P
open Go.RowKit Go.Proofs.YtjfknmlchdifjaaGreatDoorW.PrintWords Go.Proofs.YtjfknmlchdifjaaGreatDoorW.PrintLast Go.Proofs.YtjfknmlchdifjaaGreatDoorW.PrintMore Go.Proofs.YtjfknmlchdifjaaGreatDoor
theorem r06_f (a b c : Int) : foghornref06_Right.f a b c = some (rngB a 1 1048576 && rngB b a 1073741824 && rngB c 0 1048576) := by
  unfold foghornref06_Right.f rngB
  by_cases h1 : a ≥ 1
  · by_cases h2 : a ≤ 1048576
    · by_cases h3 : b ≥ a
      · by_cases h4 : b ≤ 1073741824
        · by_cases h5 : c ≥ 0
          · rw [if_pos h1, if_pos h2, if_pos h3, if_pos h4, if_pos h5, decide_eq_true (show 1 ≤ a from h1), decide_eq_true h2, decide_eq_true (show a ≤ b from h3), decide_eq_true h4, decide_eq_true (show 0 ≤ c from h5)]
            rfl
          · rw [if_pos h1, if_pos h2, if_pos h3, if_pos h4, if_neg h5, decide_eq_false (show ¬ 0 ≤ c from h5)]
            simp
        · rw [if_pos h1, if_pos h2, if_pos h3, if_neg h4, decide_eq_false h4]
          simp
      · rw [if_pos h1, if_pos h2, if_neg h3, decide_eq_false (show ¬ a ≤ b from h3)]
        simp
    · rw [if_pos h1, if_neg h2, decide_eq_false h2]
      simp
  · rw [if_neg h1, decide_eq_false (show ¬ 1 ≤ a from h1)]
    simp
theorem r07_f (k : Nat) (a b : Int) : foghornref07_Right.f (k + 1) a b 0 0 0 = some (rngB a 1 100 && rngB b 1 1048576) := by
  unfold foghornref07_Right.f rngB
  by_cases h1 : a < 1
  · rw [if_pos h1, foghornref07_Right.j0, if_pos rfl, decide_eq_false (show ¬ 1 ≤ a by omega)]
    simp
  by_cases h2 : a > 100
  · rw [if_neg h1, if_pos h2, foghornref07_Right.j0, if_pos rfl, decide_eq_false (show ¬ a ≤ 100 by omega)]
    simp
  by_cases h3 : b < 1
  · rw [if_neg h1, if_neg h2, if_pos h3, foghornref07_Right.j0, if_pos rfl, decide_eq_false (show ¬ 1 ≤ b by omega)]
    simp
  rw [if_neg h1, if_neg h2, if_neg h3, decide_eq_true (show 1 ≤ a by omega), decide_eq_true (show a ≤ 100 by omega), decide_eq_true (show 1 ≤ b by omega)]
  by_cases h4 : b ≤ 1048576
  · rw [decide_eq_false (show ¬ b > 1048576 by omega), decide_eq_true h4, foghornref07_Right.j0, if_neg (by simp), if_pos rfl, if_pos (by omega), if_pos (by omega)]
    rfl
  · rw [decide_eq_true (show b > 1048576 by omega), decide_eq_false h4, foghornref07_Right.j0, if_pos rfl]
    rfl
theorem r08_f (a b : Int) : foghornref08_Right.f a b 0 0 = some (rngB a 1 100 && rngB b 1 1048576) := by
  have h5 : foghornref05_Right.f 0 = some true := by decide
  unfold foghornref08_Right.f rngB
  by_cases h1 : a ≥ 1
  · by_cases h2 : a ≤ 100
    · by_cases h3 : b ≥ 1
      · by_cases h4 : b ≤ 1048576
        · rw [if_pos h1, if_pos h2, if_pos h3, if_pos h4, if_pos (by omega), if_pos (by omega), h5, decide_eq_true (show 1 ≤ a from h1), decide_eq_true h2, decide_eq_true (show 1 ≤ b from h3), decide_eq_true h4]
          rfl
        · rw [if_pos h1, if_pos h2, if_pos h3, if_neg h4, decide_eq_false h4]
          simp
      · rw [if_pos h1, if_pos h2, if_neg h3, decide_eq_false (show ¬ 1 ≤ b from h3)]
        simp
    · rw [if_pos h1, if_neg h2, decide_eq_false h2]
      simp
  · rw [if_neg h1, decide_eq_false (show ¬ 1 ≤ a from h1)]
    simp
theorem rrcv_f {x : Rcv} {k : Nat} (h : x.name.size ≤ maxLen) (hk : x.name.size < k) : foghornref13_receiver.f k x.name x.base x.top x.jit x.tries x.fails x.opn x.burst x.every = some (rcvB x) := by
  unfold maxLen at h
  obtain ⟨k, rfl⟩ : ∃ q, k = q + 1 := ⟨k - 1, by omega⟩
  unfold foghornref13_receiver.f
  rw [name_fb (by omega) hk, Option.bind_some]
  unfold rcvB
  cases nameB x.name
  · simp
  rw [if_pos rfl]
  by_cases hn : x.name.data.toList = ifT
  · rw [if_pos (by rw [ByteArray.toList_eq]; exact hn), decide_eq_false (by simpa using hn)]
    simp
  rw [if_neg (by rw [ByteArray.toList_eq]; exact hn), decide_eq_true (by simpa using hn), r06_f, Option.bind_some]
  cases (rngB x.base 1 1048576 && rngB x.top x.base 1073741824 && rngB x.jit 0 1048576)
  · simp
  rw [if_pos rfl]
  by_cases t1 : x.tries ≥ 1
  · by_cases t2 : x.tries ≤ 100
    · rw [if_pos t1, if_pos t2, r07_f, Option.bind_some, r08_f]
      have e : rngB x.tries 1 100 = true := by unfold rngB; rw [decide_eq_true (show 1 ≤ x.tries from t1), decide_eq_true t2]; rfl
      rw [e]
      cases (rngB x.fails 1 100 && rngB x.opn 1 1048576) <;> cases (rngB x.burst 1 100 && rngB x.every 1 1048576) <;> simp
    · have e : rngB x.tries 1 100 = false := by unfold rngB; rw [decide_eq_false t2, Bool.and_false]
      rw [if_pos t1, if_neg t2, e]
      simp
  · have e : rngB x.tries 1 100 = false := by unfold rngB; rw [decide_eq_false (show ¬ 1 ≤ x.tries from t1), Bool.false_and]
    rw [if_neg t1, e]
    simp
theorem rdR {l : List S90} {i : Nat} (h : i < l.length) : rd_T90 l (i : Int) = l[i] := getD_cast h
theorem rplace_l (n : ByteArray) (l : List S90) (hl : l.length ≤ 9223372036854775807) (d : Nat) : ∀ (k i : Nat), i + d = l.length → d < k → (∀ j (h : j < l.length), j < i → namedB n (toRcv l[j]) = false) → foghornref13_place.l0 k n l (l.length : Int) (i : Int) = some (placeL (l.map toRcv) n) := by
  induction d with
  | zero =>
    intro k i hi hk ha
    obtain ⟨k, rfl⟩ : ∃ q, k = q + 1 := ⟨k - 1, by omega⟩
    rw [foghornref13_place.l0, if_neg (by omega)]
    unfold placeL
    rw [idxOf_none fun j hj => by rw [List.getElem_map]; exact ha j (by simpa using hj) (by simp at hj; omega)]
  | succ d ih =>
    intro k i hi hk ha
    obtain ⟨k, rfl⟩ : ∃ q, k = q + 1 := ⟨k - 1, by omega⟩
    have hlt : i < l.length := by omega
    rw [foghornref13_place.l0, if_pos (by omega), if_pos (by omega), if_pos (by omega), rdR hlt]
    by_cases hn : l[i].f0.toList = n.toList
    · rw [if_pos hn]
      unfold placeL
      rw [idxOf_found (i := i) (by simpa using hlt) (by rw [List.getElem_map]; unfold namedB; exact beq_iff_eq.2 hn) fun j hj => by rw [List.getElem_map]; exact ha j (by omega) hj]
    · rw [if_neg hn, w64s (by omega)]
      refine ih k (i + 1) (by omega) (by omega) fun j h hj => ?_
      rcases Nat.lt_succ_iff_lt_or_eq.1 hj with g | rfl
      · exact ha j h g
      · exact beq_eq_false_iff_ne.2 hn
theorem rplace_f {l : List S90} (n : ByteArray) (hl : l.length ≤ 9223372036854775807) {k : Nat} (hk : l.length < k) : foghornref13_place.f k l n = some (placeL (l.map toRcv) n) := by
  unfold foghornref13_place.f
  exact rplace_l n l hl l.length k 0 (by omega) hk (fun j h hj => by omega)
end Go.Proofs.YtjfknmlchdifjaaGreatDoorQ.P
namespace Go.Proofs.YtjfknmlchdifjaaGreatDoorQ.P
open Go.RowKit Go.Proofs.YtjfknmlchdifjaaGreatDoorW.PrintWords Go.Proofs.YtjfknmlchdifjaaGreatDoorW.PrintLast Go.Proofs.YtjfknmlchdifjaaGreatDoorW.PrintMore Go.Proofs.YtjfknmlchdifjaaGreatDoor
theorem rdI {l : List Int} {i : Nat} (h : i < l.length) : rd l (i : Int) = l[i] := getD_cast h
section
variable {n : Int} {c : List Int} {a : List S32}
theorem rroute_in (v : Int) (i : Nat) (L : Int) (t : List Int) (hl : t.length ≤ 9223372036854775807) (e : Nat) : ∀ (k j : Nat), j + e = t.length → e < k → (∀ q (h : q < t.length), q < j → t[q] ≠ v) →
    (v ∈ t ∧ foghornref13_route.l1 k n v c L (i : Int) t (t.length : Int) (j : Int) c a = some false) ∨ (v ∉ t ∧ foghornref13_route.l1 k n v c L (i : Int) t (t.length : Int) (j : Int) c a = foghornref13_route.l0 (k - e - 1) n c L (wrap64 ((i : Int) + 1)) c a) := by
  induction e with
  | zero =>
    intro k j hj hk ha
    obtain ⟨k, rfl⟩ : ∃ q, k = q + 1 := ⟨k - 1, by omega⟩
    refine .inr ⟨fun h => ?_, ?_⟩
    · obtain ⟨q, hq, he⟩ := List.mem_iff_getElem.1 h
      exact ha q hq (by omega) he
    · rw [foghornref13_route.l1, if_neg (by omega)]
      rfl
  | succ e ih =>
    intro k j hj hk ha
    obtain ⟨k, rfl⟩ : ∃ q, k = q + 1 := ⟨k - 1, by omega⟩
    have hlt : j < t.length := by omega
    rw [foghornref13_route.l1, if_pos (by omega), if_pos (by omega), if_pos (by omega), rdI hlt]
    by_cases he : t[j] = v
    · exact .inl ⟨he ▸ List.getElem_mem hlt, if_pos he⟩
    · rw [if_neg he, w64s (by omega)]
      have := ih k (j + 1) (by omega) (by omega) fun q h hq => by
        rcases Nat.lt_succ_iff_lt_or_eq.1 hq with g | rfl
        · exact ha q h g
        · exact he
      rw [show k + 1 - (e + 1) - 1 = k - e - 1 by omega]
      exact this
theorem rte_true {x : Rte} {n : Int} (h : chainB n [] x.chain = true) : rteB x n = (decide (1 ≤ x.chain.length) && decide (x.chain.length ≤ 4) && matsB x.asked) := by
  unfold rteB matsB
  rw [h, Bool.true_and, Bool.and_assoc]
theorem rroute_l (hl : c.length ≤ 9223372036854775807) (hm : matsOkB a = true) (d : Nat) : ∀ (k i : Nat), i + d = c.length → (d + 1) * (c.length + 3) < k → (∀ j (h : j < c.length), j < i → c[j] ∉ c.take j ∧ 0 ≤ c[j] ∧ c[j] < n) →
    foghornref13_route.l0 k n c (c.length : Int) (i : Int) c a = some (rteB ⟨c, a.map toMat⟩ n) := by
  induction d with
  | zero =>
    intro k i hi hk ha
    obtain ⟨k, rfl⟩ : ∃ q, k = q + 1 := ⟨k - 1, by omega⟩
    have hc : chainB n [] c = true := chainB_of c [] fun j h => by rw [List.nil_append]; exact ha j h (by omega)
    rw [foghornref13_route.l0, if_neg (by omega), rte_true hc]
    dsimp only
    by_cases h1 : 1 ≤ c.length
    · by_cases h2 : c.length ≤ 4
      · rw [if_pos (by omega), if_pos (by omega), decide_eq_true h1, decide_eq_true h2]
        unfold foghornref10_Matchers.f
        rw [if_pos hm]
        rfl
      · rw [if_pos (by omega), if_neg (by omega), decide_eq_false h2, Bool.and_false, Bool.false_and]
    · rw [if_neg (by omega), decide_eq_false h1, Bool.false_and, Bool.false_and]
  | succ d ih =>
    intro k i hi hk ha
    have hk2 : (d + 1) * (c.length + 3) + (c.length + 3) < k := by
      rw [Nat.succ_mul (d + 1)] at hk
      exact hk
    obtain ⟨k, rfl⟩ : ∃ q, k = q + 2 := ⟨k - 2, by omega⟩
    have hlt : i < c.length := by omega
    rw [foghornref13_route.l0, if_pos (by omega), if_pos (by omega), if_pos (by omega), rdI hlt]
    by_cases hneg : c[i] < 0
    · rw [if_pos hneg, foghornref13_route.j1, if_pos rfl, ← rte_bad (x := ⟨c, a.map toMat⟩) (chain_bad hlt (.inr (.inl hneg)))]
    rw [if_neg hneg]
    by_cases hge : n ≤ c[i]
    · rw [decide_eq_true (show c[i] ≥ n from hge), foghornref13_route.j1, if_pos rfl, ← rte_bad (x := ⟨c, a.map toMat⟩) (chain_bad hlt (.inr (.inr hge)))]
    rw [decide_eq_false (show ¬ c[i] ≥ n from hge), foghornref13_route.j1, if_neg (by simp), if_pos (by omega), if_pos (by omega), Int.toNat_natCast]
    have htl : (c.take i).length = i := by rw [List.length_take]; omega
    rcases rroute_in (n := n) (c := c) (a := a) c[i] i (c.length : Int) (c.take i) (by omega) i k 0 (by omega) (by omega) (fun q h hq => by omega) with ⟨hin, e⟩ | ⟨hin, e⟩
    · refine e.trans ?_
      rw [← rte_bad (x := ⟨c, a.map toMat⟩) (chain_bad hlt (.inl hin))]
    · refine e.trans ?_
      rw [w64s (by omega)]
      refine ih (k - i - 1) (i + 1) (by omega) (by omega) fun j h hj => ?_
      rcases Nat.lt_succ_iff_lt_or_eq.1 hj with g | rfl
      · exact ha j h g
      · exact ⟨hin, by omega, by omega⟩
theorem rroute_f (hl : c.length ≤ 9223372036854775807) (hm : matsOkB a = true) {k : Nat} (hk : (c.length + 1) * (c.length + 3) < k) : foghornref13_route.f k c a n = some (rteB ⟨c, a.map toMat⟩ n) := by
  unfold foghornref13_route.f
  exact rroute_l hl hm c.length k 0 (by omega) hk (fun j h hj => by omega)
end
theorem roften_f (a : Int) : foghornref13_often.f a = some (oftenB a) := by
  unfold foghornref13_often.f oftenB rngB
  by_cases h1 : a ≥ 1
  · rw [if_pos h1, decide_eq_true (show 1 ≤ a from h1), Bool.true_and]
  · rw [if_neg h1, decide_eq_false (show ¬ 1 ≤ a from h1), Bool.false_and]
section
variable {l0 : List S90} {l1 : List S93} {a2 a3 : Int}
end
end Go.Proofs.YtjfknmlchdifjaaGreatDoorQ.P
namespace Go.Proofs.YtjfknmlchdifjaaGreatDoorQ.P
open Go.RowKit Go.Proofs.YtjfknmlchdifjaaGreatDoorW.PrintWords Go.Proofs.YtjfknmlchdifjaaGreatDoorW.PrintLast Go.Proofs.YtjfknmlchdifjaaGreatDoorW.PrintMore Go.Proofs.YtjfknmlchdifjaaGreatDoor
def numsR : Option (List Int) → List Int × Bool
  | none => ([], false)
  | some l => (l, true)
theorem num13 {s : ByteArray} (hs : s.size ≤ 100000) {k : Nat} (hk : s.size + 21 < k) : ∃ v : Int, foghornref12_Number.f k s = some (v, atoiB s.data.toList) ∧ (atoiB s.data.toList = true → v = atoiV s.data.toList) := by
  obtain ⟨v, h⟩ := number_f hs hk
  refine ⟨v, ?_, ?_⟩
  · rw [atoiB_eq]
    exact h.1
  · intro hb
    rw [atoiB_eq] at hb
    rw [atoiV_num hb]
    exact h.2 hb
theorem numbers_l (ws : List ByteArray) (hn : ws.length ≤ 200000) (hs : ∀ x ∈ ws, x.size ≤ 100000) (d : Nat) : ∀ (k i : Nat) (acc : List Int), i + d = ws.length → d + 100030 < k → acc.length = i →
    foghornref13_numbers.l0 k acc ws (ws.length : Int) (i : Int) = some (numsR ((numsP (ws.drop i)).map (acc ++ ·))) := by
  induction d with
  | zero =>
    intro k i acc hi hk ha
    obtain ⟨k, rfl⟩ : ∃ q, k = q + 1 := ⟨k - 1, by omega⟩
    rw [foghornref13_numbers.l0, if_neg (by omega), drop_end (by omega)]
    show some (acc, true) = some (acc ++ [], true)
    rw [List.append_nil]
  | succ d ih =>
    intro k i acc hi hk ha
    obtain ⟨k, rfl⟩ : ∃ q, k = q + 1 := ⟨k - 1, by omega⟩
    have hlt : i < ws.length := by omega
    have hx := hs ws[i] (List.getElem_mem hlt)
    obtain ⟨v, h1, h2⟩ := num13 hx (k := k) (by omega)
    rw [foghornref13_numbers.l0, if_pos (by omega), if_pos (by omega), if_pos (by omega), rdB hlt, h1, Option.bind_some, drop_cons hlt]
    unfold numsP
    dsimp only
    by_cases hb : atoiB ws[i].data.toList = true
    · rw [if_pos hb, if_pos hb, if_pos (by omega), w64s (by omega), h2 hb, ih k (i + 1) (acc ++ [atoiV ws[i].data.toList]) (by omega) (by omega) (by simp [ha])]
      cases numsP (ws.drop (i + 1)) <;> simp
    · rw [if_neg hb, if_neg hb]
      rfl
theorem numbers_f {ws : List ByteArray} (hn : ws.length ≤ 200000) (hs : ∀ x ∈ ws, x.size ≤ 100000) {k : Nat} (hk : 300030 < k) : foghornref13_numbers.f k ws = some (numsR (numsP ws)) := by
  have := numbers_l ws hn hs ws.length k 0 [] (by omega) (by omega) rfl
  unfold foghornref13_numbers.f
  refine this.trans ?_
  rw [List.drop_zero]
  cases numsP ws <;> simp [numsR]
def oneR (ws : List ByteArray) : Int × Int := if (timeS 0 ws).2 = 0 then timeS 0 ws else (0, (timeS 0 ws).2)
theorem one_f {ws : List ByteArray} (hs : ∀ x ∈ ws, x.size ≤ 100000) {k : Nat} (hk : 100030 < k) : foghornref13_one.f k ws = some (oneR ws) := by
  unfold foghornref13_one.f oneR timeS
  by_cases h2 : ws.length = 2
  · have hlt : 1 < ws.length := by omega
    have hg : ws.getD 1 ⟨#[]⟩ = ws[1] := by rw [List.getD_eq_getElem?_getD, List.getElem?_eq_getElem hlt]; rfl
    obtain ⟨v, e1, e2⟩ := num13 (hs ws[1] (List.getElem_mem hlt)) (k := k) (by have := hs ws[1] (List.getElem_mem hlt); omega)
    have hr : rdOf ByteArray.empty ws 1 = ws[1] := rdB hlt
    rw [if_pos (by omega), if_pos (by omega), hr, e1, Option.bind_some, if_neg (show ¬ ws.length ≠ 2 by omega), hg]
    dsimp only
    cases hb : atoiB ws[1].data.toList
    · simp
    · rw [if_pos rfl, e2 hb, roften_f, Option.bind_some]
      cases oftenB (atoiV ws[1].data.toList) <;> simp
  · rw [if_neg (by omega), if_pos (show ws.length ≠ 2 from h2), if_neg (by decide)]
end Go.Proofs.YtjfknmlchdifjaaGreatDoorQ.P
namespace Go.Proofs.YtjfknmlchdifjaaGreatDoor
open Go.RowKit Go.Proofs.YtjfknmlchdifjaaGreatDoorQ Go.Proofs.YtjfknmlchdifjaaGreatDoorQ.P Go.Proofs.YtjfknmlchdifjaaGreatDoorW.PrintWords Go.Proofs.YtjfknmlchdifjaaGreatDoorW.PrintLast Go.Proofs.YtjfknmlchdifjaaGreatDoorW.PrintMore
attribute [local go_sem high] ext_size ext_cell ext_frozen alloc_cell alloc_frozen
attribute [local go_sem] lt_more lt_suc drew_size drew_cell
structure CfA (w : World) (g : Nat) (rv tv : Value) (c : Cfg) : Prop where
  rs : Kd.R k90 90 w g (fun _ => True) rv (c.rs.map ofRcv)
  ts : Kd.S k93 93 w g (fun _ => True) tv (c.ts.map ofRte)
  rl : c.rs.length ≤ 4
  tl : c.ts.length ≤ 4
theorem CfA.stay {w W : World} {g : Nat} {rv tv : Value} {c : Cfg} (h : CfA w g rv tv c) (hb : Below w.heap.size w W) : CfA W g rv tv c := ⟨Kd.R_below h.rs hb, Kd.S_below h.ts hb, h.rl, h.tl⟩
theorem CfA.zero (w : World) (g : Nat) : CfA w g (.slice none 0 0) (.slice none 0 0) Cfg.zero := ⟨Kd.R_nil _ _ _ _ _, Kd.S_nil _ _ _ _ _, Nat.zero_le _, Nat.zero_le _⟩
theorem CfA.set {w : World} {g : Nat} {rv tv : Value} {c : Cfg} (h : CfA w g rv tv c) {b : Nat} {cs : Array Value} {T : TypeId} (hb : w.heap[b]? = some (.cells cs T (0, 0))) (hT : ∀ q, q ∈ 90 :: (Kd.E k90) → q ≠ T) (hT2 : ∀ q, q ∈ 93 :: (Kd.E k93) → q ≠ T) (j : Nat) (u : Value) :
    CfA (w.setCell ⟨b, j, none⟩ u) g rv tv c := ⟨Kd.R_set h.rs hb hT j u, Kd.S_set h.ts hb hT2 j u, h.rl, h.tl⟩
theorem CfA.set2 {w : World} {g : Nat} {rv tv : Value} {c : Cfg} (h : CfA w g rv tv c) {b : Nat} {cs : Array Value} (hb : w.heap[b]? = some (.cells cs 57 (0, 0))) (j : Nat) (u : Value) :
    CfA (w.setCell ⟨b, j, none⟩ u) g rv tv c := h.set hb (by decide) (by decide) j u
def KeptT (w w' : World) : Prop := ∀ (k : Nat) (cs : Array Value) (T : TypeId) (fr : Nat × Nat), w.heap[k]? = some (Obj.cells cs T fr) → T ≠ 90 → T ≠ 93 → w'.heap[k]? = some (Obj.cells cs T fr)
theorem KeptT.bel {w W : World} (h : Below w.heap.size w W) : KeptT w W := fun k cs T fr hk _ _ => blk_call h hk
theorem KeptT.trans {w w1 W : World} (h : KeptT w w1) (h2 : KeptT w1 W) : KeptT w W := fun k cs T fr hk h3 h4 => h2 k cs T fr (h k cs T fr hk h3 h4) h3 h4
theorem KeptT.grow {w W : World} {v : Value} {e : Nat} (hg : w.grownBy W v.ownBlock) (hty : ∀ k, v.ownBlock = some k → ∃ cells, w.heap[k]? = some (.cells cells e (0, 0))) (he : e = 90 ∨ e = 93) : KeptT w W := fun k cs T fr hk h3 h4 => by
  refine (hg.block k (blk_lt hk) fun e2 => ?_).trans hk
  obtain ⟨cells, hc⟩ := hty k e2.symm
  rw [hk] at hc
  injection hc with hc
  injection hc with _ hc _
  rcases he with rfl | rfl
  · exact h3 hc
  · exact h4 hc
theorem KeptT.set {w W : World} (h : KeptT w W) {p : Addr} (hp : w.heap.size ≤ p.block) (u : Value) : KeptT w (W.setCell p u) := fun k cs T fr hk h3 h4 => by
  have := blk_lt hk
  exact blk_set_far (h k cs T fr hk h3 h4) (by omega) u
theorem KeptT.put4 {w W : World} {H1 : Nat} (h : KeptT w W) (hp : w.heap.size ≤ H1) (v1 v2 v3 v4 : Value) : KeptT w ((((W.setCell ⟨H1, 0, none⟩ v1).setCell ⟨H1, 1, none⟩ v2).setCell ⟨H1, 2, none⟩ v3).setCell ⟨H1, 3, none⟩ v4) := (((h.set hp _).set hp _).set hp _).set hp _
theorem rcv_maps (rs : List Rcv) : (rs.map ofRcv).map toRcv = rs := by
  rw [List.map_map]
  conv => rhs; rw [← List.map_id rs]
  exact List.map_congr_left fun _ _ => rfl
theorem rplace_any (A : Option Addr) (cap : Nat) (rs : List Rcv) (nm : ByteArray) (W : World) (h : Kd.C k90 W A rs.length (rs.map ofRcv)) (hc : rs.length ≤ cap) (hl : rs.length ≤ 1000) :
    Calls Tryz.prog 69 #[.slice A rs.length cap, .string nm] W fun e w' => e = .returned (.int .i64 (placeL rs nm)) ∧ Below W.heap.size W w' := by
  have e : (rs.map ofRcv).length = rs.length := List.length_map _
  have := foghornref13_place.calls (rs.length + 1) A cap (rs.map ofRcv) nm (placeL rs nm) W (by rw [e]; exact h) (by rw [e]; exact hc) (by rw [rplace_f nm (by rw [e]; omega) (by rw [e]; omega), rcv_maps])
  rw [e] at this
  exact this
theorem rreceiver_any (x : Rcv) (W : World) (h : x.name.size ≤ maxLen) :
    Calls Tryz.prog 68 #[rcvV x] W fun e w' => e = .returned (.bool (rcvB x)) ∧ Below W.heap.size W w' :=
  foghornref13_receiver.calls (x.name.size + 1) _ _ _ _ _ _ _ _ _ _ W (rrcv_f h (Nat.lt_succ_self _))
theorem drop_wordsC {w : World} {A : Option Addr} {c : Nat} {ws : List ByteArray} (h : Kd.C Kd.string w A ws.length ws) (hc : ws.length ≤ c) (j : Int) (h0 : 0 ≤ j) (hm : j ≤ ws.length) :
    ∃ A' : Option Addr, (∀ W : World, (Instr.slice 67 (.slice A ws.length c) (some (.int .i64 j)) none none).run Tryz.prog W = .ok (.slice A' (ws.drop j.toNat).length (c - j.toNat)) W) ∧
      Kd.C Kd.string w A' (ws.drop j.toNat).length (ws.drop j.toNat) ∧ (ws.drop j.toNat).length ≤ c - j.toNat := by
  obtain ⟨i0, hi, _, hsz, _⟩ := info_parts infoStr
  obtain ⟨A', h1, h2, h3⟩ := print_drop_of (P := Tryz.prog) Value.string (⟨#[]⟩ : ByteArray) 67 9 .i64 Tryz.underlying67 hi hsz A c ws j h0 hm hc
  exact ⟨A', h1, Kd.C_of_reads (h1 := fun _ => rfl) (h2 _ (Kd.reads_of_C h)), h3⟩
theorem numsP_len : ∀ {ws : List ByteArray} {l : List Int}, numsP ws = some l → l.length = ws.length := by
  intro ws
  induction ws with
  | nil => intro l h; injection h with h; subst h; rfl
  | cons x r ih =>
    intro l h
    unfold numsP at h
    by_cases hx : atoiB x.data.toList = true
    · rw [if_pos hx] at h
      obtain ⟨d, hd, rfl⟩ := Option.map_eq_some_iff.1 h
      rw [List.length_cons, List.length_cons, ih hd]
    · rw [if_neg hx] at h; cases h
theorem rnumbers_any (A : Option Addr) (cap : Nat) (ws : List ByteArray) (W : World) (h : Kd.C Kd.string W A ws.length ws) (hc : ws.length ≤ cap) (hn : ws.length ≤ 200000) (hs : ∀ x ∈ ws, x.size ≤ 100000) :
    Calls Tryz.prog 138 #[.slice A ws.length cap] W fun e w' => ∃ v0_ : Value, e = .returned (.tuple #[v0_, .bool (numsR (numsP ws)).2]) ∧ Kd.R (Kd.int .i64) 3 w' W.heap.size (fun _ => True) v0_ (numsR (numsP ws)).1 ∧ Below W.heap.size W w' :=
  foghornref13_numbers.calls 300031 A cap ws _ _ W h hc (numbers_f hn hs (by omega))
theorem rnumbers_no (A : Option Addr) (cap : Nat) (ws : List ByteArray) (W : World) (h : Kd.C Kd.string W A ws.length ws) (hc : ws.length ≤ cap) (hn : ws.length ≤ 200000) (hs : ∀ x ∈ ws, x.size ≤ 100000) (hp : numsP ws = none) :
    Calls Tryz.prog 138 #[.slice A ws.length cap] W fun e w' => ∃ A' n' c', e = .returned (.tuple #[.slice A' n' c', .bool false]) ∧ Below W.heap.size W w' := by
  refine (rnumbers_any A cap ws W h hc hn hs).mono ?_
  rintro e w' ⟨v, rfl, hR, hb⟩
  obtain ⟨A', c', rfl⟩ := Kd.R_slice hR
  rw [hp]
  exact ⟨A', _, c', rfl, hb⟩
theorem rnumbers_yes (A : Option Addr) (cap : Nat) (ws : List ByteArray) (L : List Int) (W : World) (h : Kd.C Kd.string W A ws.length ws) (hc : ws.length ≤ cap) (hn : ws.length ≤ 200000) (hs : ∀ x ∈ ws, x.size ≤ 100000) (hp : numsP ws = some L) :
    Calls Tryz.prog 138 #[.slice A ws.length cap] W fun e w' => ∃ A' c', e = .returned (.tuple #[.slice A' L.length c', .bool true]) ∧ SlAt w' (.slice A' L.length c') 1 L.length (intsC L) ∧ Below W.heap.size W w' := by
  refine (rnumbers_any A cap ws W h hc hn hs).mono ?_
  rintro e w' ⟨v, rfl, hR, hb⟩
  rw [hp] at hR ⊢
  obtain ⟨A', c', rfl, hS⟩ := ints_open hR
  exact ⟨A', c', rfl, hS, hb⟩
theorem intsC_get (l : List Int) (j : Nat) (h : j < l.length) : (intsC l)[j]? = some (.int .i64 l[j]) := by
  unfold intsC
  rw [List.getElem?_map, List.getElem?_eq_getElem h]
  rfl
def NumR (b o b2 o2 : Nat) (nm : ByteArray) (n0 n1 n2 n3 n4 n5 n6 n7 : Int) (w : World) : Prop :=
  w.cell? ⟨b, o, none⟩ = some (.string nm) ∧ w.cell? ⟨b2, o2, none⟩ = some (.int .i64 n0) ∧ w.cell? ⟨b2, o2 + 1, none⟩ = some (.int .i64 n1) ∧ w.cell? ⟨b2, o2 + 2, none⟩ = some (.int .i64 n2) ∧ w.cell? ⟨b2, o2 + 3, none⟩ = some (.int .i64 n3) ∧
    w.cell? ⟨b2, o2 + 4, none⟩ = some (.int .i64 n4) ∧ w.cell? ⟨b2, o2 + 5, none⟩ = some (.int .i64 n5) ∧ w.cell? ⟨b2, o2 + 6, none⟩ = some (.int .i64 n6) ∧ w.cell? ⟨b2, o2 + 7, none⟩ = some (.int .i64 n7)
theorem NumR.stay {b o b2 o2 : Nat} {nm : ByteArray} {n0 n1 n2 n3 n4 n5 n6 n7 : Int} {w W : World} (h : NumR b o b2 o2 nm n0 n1 n2 n3 n4 n5 n6 n7 w) (hb : b < w.heap.size) (hH : b2 < w.heap.size) (h2 : Below w.heap.size w W) : NumR b o b2 o2 nm n0 n1 n2 n3 n4 n5 n6 n7 W := by
  obtain ⟨e, e0, e1, e2, e3, e4, e5, e6, e7⟩ := h
  have f := fun j => h2.cell (p := ⟨b2, j, none⟩) hH
  exact ⟨(h2.cell (p := ⟨b, o, none⟩) hb).trans e, (f _).trans e0, (f _).trans e1, (f _).trans e2, (f _).trans e3, (f _).trans e4, (f _).trans e5, (f _).trans e6, (f _).trans e7⟩
set_option maxHeartbeats 8000000 in
set_option maxRecDepth 100000 in
theorem raddR_any (g : Nat) (rv tv : Value) (c : Cfg) (ws : List ByteArray) (A0 : Option Addr) (c0 : Nat) (w : World) (h : CfA w g rv tv c) (hg : g ≤ w.heap.size) (hC : Kd.C Kd.string w A0 ws.length ws) (hc : ws.length ≤ c0) (hw : ∀ x ∈ ws, x.size ≤ 100000) (hn : ws.length ≤ 200000) :
    Calls Tryz.prog 102 #[.agg #[rv, tv, .int .i64 c.rep, .int .i64 c.beat], .slice A0 ws.length c0] w fun e w' => ∃ rv', e = .returned (.tuple #[.agg #[rv', tv, .int .i64 c.rep, .int .i64 c.beat], .int .i64 (rcvS c.rs ws).2]) ∧ Below g w w' ∧ KeptT w w' ∧
      CfA w' g rv' tv { c with rs := (rcvS c.rs ws).1 } := by
  have HH := Lib.hid h
  obtain ⟨A, cap, rfl, hcap, hRC⟩ := Kd.R_reads h.rs
  obtain ⟨TA, tcap, rfl⟩ : ∃ TA tcap, tv = .slice TA c.ts.length tcap := by
    obtain ⟨a, b, e⟩ := Kd.S_slice h.ts
    rw [List.length_map] at e
    exact ⟨a, b, e⟩
  have hS := strs_k hC hc
  have HS := Lib.hid hS
  have hm0 := hS.le
  unfold maxLen at hm0
  rw [List.length_map] at hcap hRC HH ⊢
  have hrl := h.rl
  have HRC := Lib.hid hRC
  clear hRC hS
  have HB0 := Lib.hid (show ((w.alloc (.cells #[Value.slice A c.rs.length cap, Value.slice TA c.ts.length tcap, Value.int IntKind.i64 c.rep, Value.int IntKind.i64 c.beat] 57)).alloc (.cells #[Value.slice none 0 0, Value.slice none 0 0, Value.int IntKind.i64 0, Value.int IntKind.i64 0] 57)).heap[w.heap.size]? = _ from blk_new1 _ _ _)
  have HB1 := Lib.hid (show ((w.alloc (.cells #[Value.slice A c.rs.length cap, Value.slice TA c.ts.length tcap, Value.int IntKind.i64 c.rep, Value.int IntKind.i64 c.beat] 57)).alloc (.cells #[Value.slice none 0 0, Value.slice none 0 0, Value.int IntKind.i64 0, Value.int IntKind.i64 0] 57)).heap[w.heap.size + 1]? = _ from blk_new2 _ _ _)
  have RT := Lib.hid fun (W : World) (A' : Option Addr) (n' cap' : Nat) (hb : W.heap[w.heap.size + 1]? = some (.cells #[Value.slice none 0 0, Value.slice none 0 0, Value.int IntKind.i64 0, Value.int IntKind.i64 0] 57 (0, 0))) =>
    blk_put (blk_put (blk_put (blk_put hb 0 (.slice A' n' cap') rfl) 1 (.slice TA c.ts.length tcap) rfl) 2 (.int .i64 c.rep) rfl) 3 (.int .i64 c.beat) rfl
  unfold rcvS
  by_cases h4 : c.rs.length = 4
  · rw [if_pos h4]
    have h4' : (c.rs.length : Int) = 4 := by omega
    clear h hC h4
    go_enter Tryz.func102, Tryz.ntmps102
    go_wp2_with fail
    refine bodyPost_ret (results_ct rfl _ _ (w.heap.size + 1) 57 #[.slice A c.rs.length cap, .slice TA c.ts.length tcap, .int .i64 c.rep, .int .i64 c.beat] (0, 0) _ rfl (blk_new2 _ _ _) Tryz.underlying57 rfl (by kernel_rfl)) rfl ?_
    exact ⟨_, rfl, bel_low hg (by repeat (first | exact Below.refl _ _ | apply bal | apply bext | apply bdr | apply bdrN | (refine bst ?_ _ (by simp only [ext_size, size_alloc, size_set]; omega)))), KeptT.bel (by repeat (first | exact Below.refl _ _ | apply bal | apply bext | apply bdr | apply bdrN | (refine bst ?_ _ (by simp only [ext_size, size_alloc, size_set]; omega)))), HH.out.stay (by repeat (first | exact Below.refl _ _ | apply bal | apply bext | apply bdr | apply bdrN | (refine bst ?_ _ (by simp only [ext_size, size_alloc, size_set]; omega))))⟩
  rw [if_neg h4]
  have h4' : ¬ ((c.rs.length : Int) = 4) := by omega
  by_cases h10 : ws.length ≠ 10
  · rw [if_pos h10]
    have h10' : ¬ ((ws.length : Int) = 10) := by omega
    clear h hC h4 h10
    go_enter Tryz.func102, Tryz.ntmps102
    go_wp2_with fail
    refine bodyPost_ret (results_ct rfl _ _ (w.heap.size + 1) 57 #[.slice A c.rs.length cap, .slice TA c.ts.length tcap, .int .i64 c.rep, .int .i64 c.beat] (0, 0) _ rfl (blk_new2 _ _ _) Tryz.underlying57 rfl (by kernel_rfl)) rfl ?_
    exact ⟨_, rfl, bel_low hg (by repeat (first | exact Below.refl _ _ | apply bal | apply bext | apply bdr | apply bdrN | (refine bst ?_ _ (by simp only [ext_size, size_alloc, size_set]; omega)))), KeptT.bel (by repeat (first | exact Below.refl _ _ | apply bal | apply bext | apply bdr | apply bdrN | (refine bst ?_ _ (by simp only [ext_size, size_alloc, size_set]; omega)))), HH.out.stay (by repeat (first | exact Below.refl _ _ | apply bal | apply bext | apply bdr | apply bdrN | (refine bst ?_ _ (by simp only [ext_size, size_alloc, size_set]; omega))))⟩
  rw [if_neg h10]
  have h10' : ws.length = 10 := by omega
  obtain ⟨A2, hr2, hC2, hc2⟩ := drop_wordsC hC hc 2 (by omega) (by omega)
  have e0 : (2 : Int).toNat = 2 := rfl
  rw [e0] at hr2 hC2 hc2
  obtain ⟨xs, hxs⟩ : ∃ xs, xs = ws.drop 2 := ⟨_, rfl⟩
  rw [← hxs] at hr2 hC2 hc2 ⊢
  have hxl : xs.length = 8 := by rw [hxs, List.length_drop]; omega
  have hxw : ∀ x ∈ xs, x.size ≤ 100000 := fun x hx => hw x (List.mem_of_mem_drop (hxs ▸ hx))
  obtain ⟨b, oo, rfl, hbl, hcell⟩ := HS.out.at (by omega)
  obtain ⟨nm, hnm⟩ : ∃ nm, nm = ws.getD 1 ⟨#[]⟩ := ⟨_, rfl⟩
  have hnm1 : ws[1]'(by omega) = nm := by rw [hnm, List.getD_eq_getElem?_getD, List.getElem?_eq_getElem (by omega)]; rfl
  have k1 : w.cell? ⟨b, oo + 1, none⟩ = some (.string nm) := by rw [← hnm1]; exact hcell 1 _ (strs_get ws 1 (by omega))
  have hns : nm.size ≤ 100000 := by rw [← hnm1]; exact hw _ (List.getElem_mem _)
  have HP := Lib.hid fun W (hs : Kd.C k90 W A c.rs.length (c.rs.map ofRcv)) => rplace_any A cap c.rs nm W hs hcap (by omega)
  have HNO := Lib.hid fun (hp : numsP xs = none) W (hs : Kd.C Kd.string W A2 xs.length xs) => rnumbers_no A2 (c0 - 2) xs W hs hc2 (by omega) hxw hp
  have HYES := Lib.hid fun L (hp : numsP xs = some L) W (hs : Kd.C Kd.string W A2 xs.length xs) => rnumbers_yes A2 (c0 - 2) xs L W hs hc2 (by omega) hxw hp
  have HC2 := Lib.hid hC2
  have HR2 := Lib.hid hr2
  have HXL := Lib.hid hxl
  rw [← hnm]
  generalize placeL c.rs nm = pl at HP ⊢
  rw [h10'] at HR2 ⊢
  have hcc : ¬ (c0 = 2) := by omega
  clear hc h hC hnm hnm1 hcell hxs hw h10 hC2 hxw hr2 h10' e0 hxl
  by_cases hpl : 0 ≤ pl
  · rw [if_pos hpl]
    go_enter Tryz.func102, Tryz.ntmps102
    go_wp2_with fail
    refine wp_region_ext (by kernel_rfl) (by kernel_rfl) ?_
    repeat (go_big_quiet_step ((first | (go_at_call 69; exact Calls.grew (HP.out _ (Kd.C_below HRC.out (by repeat (first | exact Below.refl _ _ | apply bal | apply bext | apply bdr | apply bdrN | (refine bst ?_ _ (by simp only [ext_size, size_alloc, size_set]; omega))))))))))
    refine wpQuiet_nil ?_
    intro _ hw'
    obtain ⟨y1, rfl⟩ := hw'
    go_wp2_with fail
    refine bodyPost_ret (results_ct rfl _ _ (w.heap.size + 1) 57 #[.slice A c.rs.length cap, .slice TA c.ts.length tcap, .int .i64 c.rep, .int .i64 c.beat] (0, 0) _ rfl (RT.out _ _ _ _ (blk_call (ext_bel _ y1) HB1.out)) Tryz.underlying57 rfl (by kernel_rfl)) rfl ?_
    exact ⟨_, rfl, bel_low hg (by repeat (first | exact Below.refl _ _ | apply bal | apply bext | apply bdr | apply bdrN | (refine bst ?_ _ (by simp only [ext_size, size_alloc, size_set]; omega)))), KeptT.bel (by repeat (first | exact Below.refl _ _ | apply bal | apply bext | apply bdr | apply bdrN | (refine bst ?_ _ (by simp only [ext_size, size_alloc, size_set]; omega)))), HH.out.stay (by repeat (first | exact Below.refl _ _ | apply bal | apply bext | apply bdr | apply bdrN | (refine bst ?_ _ (by simp only [ext_size, size_alloc, size_set]; omega))))⟩
  rw [if_neg hpl]
  have hr2 := HR2.out
  cases hnp : numsP xs with
  | none =>
    have HNO := Lib.hid fun W hs => HNO.out hnp W hs
    clear HYES hnp
    go_enter Tryz.func102, Tryz.ntmps102
    go_wp2_with fail
    refine wp_region_ext (by kernel_rfl) (by kernel_rfl) ?_
    repeat (go_big_quiet_step ((first | (go_at_call 69; exact Calls.grew (HP.out _ (Kd.C_below HRC.out (by repeat (first | exact Below.refl _ _ | apply bal | apply bext | apply bdr | apply bdrN | (refine bst ?_ _ (by simp only [ext_size, size_alloc, size_set]; omega))))))))))
    refine wpQuiet_nil ?_
    intro _ hw'
    obtain ⟨y1, rfl⟩ := hw'
    go_wp2_with fail
    refine (HNO.out _ (Kd.C_below HC2.out (by repeat (first | exact Below.refl _ _ | apply bal | apply bext | apply bdr | apply bdrN | (refine bst ?_ _ (by simp only [ext_size, size_alloc, size_set]; omega)))))).mono ?_
    rintro e w' ⟨A', n', c', rfl, hb⟩
    obtain ⟨y2, rfl⟩ := ext_of hb
    clear hb
    go_wp2_with fail
    refine bodyPost_ret (results_ct rfl _ _ (w.heap.size + 1) 57 #[.slice A c.rs.length cap, .slice TA c.ts.length tcap, .int .i64 c.rep, .int .i64 c.beat] (0, 0) _ rfl (RT.out _ _ _ _ (blk_call (ext_bel _ y2) (blk_call (ext_bel _ y1) HB1.out))) Tryz.underlying57 rfl (by kernel_rfl)) rfl ?_
    exact ⟨_, rfl, bel_low hg (by repeat (first | exact Below.refl _ _ | apply bal | apply bext | apply bdr | apply bdrN | (refine bst ?_ _ (by simp only [ext_size, size_alloc, size_set]; omega)))), KeptT.bel (by repeat (first | exact Below.refl _ _ | apply bal | apply bext | apply bdr | apply bdrN | (refine bst ?_ _ (by simp only [ext_size, size_alloc, size_set]; omega)))), HH.out.stay (by repeat (first | exact Below.refl _ _ | apply bal | apply bext | apply bdr | apply bdrN | (refine bst ?_ _ (by simp only [ext_size, size_alloc, size_set]; omega))))⟩
  | some L =>
    have hL8 : L.length = 8 := by rw [numsP_len hnp]; exact HXL.out
    have HYES := Lib.hid fun W hs => HYES.out L hnp W hs
    have HI := Lib.hid fun W => rreceiver_any (rcvOf nm L) W (Nat.le_trans hns (by unfold maxLen; omega))
    obtain ⟨res, hres⟩ : ∃ res, res = rcvN c.rs nm (some L) := ⟨_, rfl⟩
    rw [← hres]
    have HRE := Lib.hid (show res = if rcvB (rcvOf nm L) = true then (c.rs ++ [rcvOf nm L], 0) else (c.rs, 3) from hres)
    clear HNO hnp hres
    rw [hL8] at HYES
    go_enter Tryz.func102, Tryz.ntmps102
    go_wp2_with fail
    refine wp_region_ext (by kernel_rfl) (by kernel_rfl) ?_
    repeat (go_big_quiet_step ((first | (go_at_call 69; exact Calls.grew (HP.out _ (Kd.C_below HRC.out (by repeat (first | exact Below.refl _ _ | apply bal | apply bext | apply bdr | apply bdrN | (refine bst ?_ _ (by simp only [ext_size, size_alloc, size_set]; omega))))))))))
    refine wpQuiet_nil ?_
    intro _ hw'
    obtain ⟨y1, rfl⟩ := hw'
    go_wp2_with fail
    refine (HYES.out _ (Kd.C_below HC2.out (by repeat (first | exact Below.refl _ _ | apply bal | apply bext | apply bdr | apply bdrN | (refine bst ?_ _ (by simp only [ext_size, size_alloc, size_set]; omega)))))).mono ?_
    rintro e W5 ⟨A', c', rfl, hSL, hb⟩
    have BD0 := Lib.hid (show Below w.heap.size w W5 from bel (by repeat (first | exact Below.refl _ _ | apply bal | apply bext | apply bdr | apply bdrN | (refine bst ?_ _ (by simp only [ext_size, size_alloc, size_set]; omega)))) hb)
    have BK0 := Lib.hid (blk_call hb (blk_call (ext_bel _ y1) HB0.out))
    have BK1 := Lib.hid (blk_call hb (blk_call (ext_bel _ y1) HB1.out))
    have R5 := Lib.hid (HH.out.stay BD0.out)
    obtain ⟨b2, o2, rfl, hbl2, hcell2⟩ := hSL.at (by omega)
    have k1' : W5.cell? ⟨b, oo + 1, none⟩ = some (.string nm) := (BD0.out.cell (p := ⟨b, oo + 1, none⟩) hbl).trans k1
    have c0' : ∀ j (hj : j < 8), W5.cell? ⟨b2, o2 + j, none⟩ = some (.int .i64 (L.getD j 0)) := fun j hj => hcell2 j _ (by
      have hj' : j < L.length := by rw [hL8]; exact hj
      rw [List.getD_eq_getElem?_getD, List.getElem?_eq_getElem hj']
      exact intsC_get L j hj')
    obtain ⟨x, hx⟩ : ∃ x, x = rcvOf nm L := ⟨_, rfl⟩
    have e0 := c0' 0 (by omega)
    have e1 := c0' 1 (by omega)
    have e2 := c0' 2 (by omega)
    have e3 := c0' 3 (by omega)
    have e4 := c0' 4 (by omega)
    have e5 := c0' 5 (by omega)
    have e6 := c0' 6 (by omega)
    have e7 := c0' 7 (by omega)
    rw [Nat.add_zero] at e0
    rw [← hx] at HI HRE
    unfold rcvOf at hx
    generalize L.getD 0 0 = n0 at *
    generalize L.getD 1 0 = n1 at *
    generalize L.getD 2 0 = n2 at *
    generalize L.getD 3 0 = n3 at *
    generalize L.getD 4 0 = n4 at *
    generalize L.getD 5 0 = n5 at *
    generalize L.getD 6 0 = n6 at *
    generalize L.getD 7 0 = n7 at *
    have hIV : rcvV x = .agg #[.string nm, .int .i64 n0, .int .i64 n1, .int .i64 n2, .int .i64 n3, .int .i64 n4, .int .i64 n5, .int .i64 n6, .int .i64 n7] := by rw [hx]; rfl
    rw [hIV] at HI
    have HXX := Lib.hid hx
    have hbl' := Nat.lt_of_lt_of_le hbl BD0.out.size
    have HSX := Lib.hid fun W (hb : Below W5.heap.size W5 W) => (show NumR b (oo + 1) b2 o2 nm n0 n1 n2 n3 n4 n5 n6 n7 W5 from ⟨k1', e0, e1, e2, e3, e4, e5, e6, e7⟩).stay hbl' hbl2 hb
    have h50 := blk_lt BK0.out
    have h51 := blk_lt BK1.out
    clear hb hr2 c0' hIV hx hcell2 hSL HYES hL8 e0 e1 e2 e3 e4 e5 e6 e7 k1' k1 HR2
    generalize rcvB x = rb at HI HRE
    cases rb
    · go_wp2_with fail
      refine start_ (n := 31) (S := NumR b (oo + 1) b2 o2 nm n0 n1 n2 n3 n4 n5 n6 n7) (ds := []) #[false, false, false, false, false, false, false, false, false, false, false, false, false, false, false, false, false, false, false, false, false, false, false, false, false, false, false, false, false, false, false] (by kernel_rfl) rfl rfl (HSX.out _ (Below.refl _ _).drew) (fun hHeld => ?_)
      refine pure_ (i := 0) (N := some 35) (v := ?_) (a' := ?_) #[true, false, false, false, false, false, false, false, false, false, false, false, false, false, false, false, false, false, false, false, false, false, false, false, false, false, false, false, false, false, false] rfl rfl (by kernel_rfl) (fun _ _ _ h => h) (Or.inl ⟨by rfl, ?_⟩) ?_ ?_
      rotate_left
      · intro w'
        go_simp
        with_reducible rfl
      rotate_left
      · simp only [Act.put, List.setIfInBounds_toArray, List.set_cons_zero, List.set_cons_succ, i64_w, i32_w]
        rfl
      refine pure_ (i := 1) (N := some 36) (v := ?_) (a' := ?_) #[true, true, false, false, false, false, false, false, false, false, false, false, false, false, false, false, false, false, false, false, false, false, false, false, false, false, false, false, false, false, false] rfl rfl (by kernel_rfl) (fun _ _ _ h => h) (Or.inl ⟨by rfl, ?_⟩) ?_ ?_
      rotate_left
      · intro w'
        go_simp
        with_reducible rfl
      rotate_left
      · simp only [Act.put, List.setIfInBounds_toArray, List.set_cons_zero, List.set_cons_succ, i64_w, i32_w]
        rfl
      refine pure_ (i := 3) (N := some 38) (v := ?_) (a' := ?_) #[true, true, false, true, false, false, false, false, false, false, false, false, false, false, false, false, false, false, false, false, false, false, false, false, false, false, false, false, false, false, false] rfl rfl (by kernel_rfl) (fun _ _ _ h => h) (Or.inl ⟨by rfl, ?_⟩) ?_ ?_
      rotate_left
      · intro w'
        go_simp
        with_reducible rfl
      rotate_left
      · simp only [Act.put, List.setIfInBounds_toArray, List.set_cons_zero, List.set_cons_succ, i64_w, i32_w]
        rfl
      refine pure_ (i := 4) (N := some 39) (v := ?_) (a' := ?_) #[true, true, false, true, true, false, false, false, false, false, false, false, false, false, false, false, false, false, false, false, false, false, false, false, false, false, false, false, false, false, false] rfl rfl (by kernel_rfl) (fun _ _ _ h => h) (Or.inl ⟨by rfl, ?_⟩) ?_ ?_
      rotate_left
      · intro w'
        go_simp
        with_reducible rfl
      rotate_left
      · simp only [Act.put, List.setIfInBounds_toArray, List.set_cons_zero, List.set_cons_succ, i64_w, i32_w]
        rfl
      refine pure_ (i := 6) (N := some 41) (v := ?_) (a' := ?_) #[true, true, false, true, true, false, true, false, false, false, false, false, false, false, false, false, false, false, false, false, false, false, false, false, false, false, false, false, false, false, false] rfl rfl (by kernel_rfl) (fun _ _ _ h => h) (Or.inl ⟨by rfl, ?_⟩) ?_ ?_
      rotate_left
      · intro w'
        go_simp
        with_reducible rfl
      rotate_left
      · simp only [Act.put, List.setIfInBounds_toArray, List.set_cons_zero, List.set_cons_succ, i64_w, i32_w]
        rfl
      refine pure_ (i := 7) (N := some 42) (v := ?_) (a' := ?_) #[true, true, false, true, true, false, true, true, false, false, false, false, false, false, false, false, false, false, false, false, false, false, false, false, false, false, false, false, false, false, false] rfl rfl (by kernel_rfl) (fun _ _ _ h => h) (Or.inl ⟨by rfl, ?_⟩) ?_ ?_
      rotate_left
      · intro w'
        go_simp
        with_reducible rfl
      rotate_left
      · simp only [Act.put, List.setIfInBounds_toArray, List.set_cons_zero, List.set_cons_succ, i64_w, i32_w]
        rfl
      refine pure_ (i := 9) (N := some 44) (v := ?_) (a' := ?_) #[true, true, false, true, true, false, true, true, false, true, false, false, false, false, false, false, false, false, false, false, false, false, false, false, false, false, false, false, false, false, false] rfl rfl (by kernel_rfl) (fun _ _ _ h => h) (Or.inl ⟨by rfl, ?_⟩) ?_ ?_
      rotate_left
      · intro w'
        go_simp
        with_reducible rfl
      rotate_left
      · simp only [Act.put, List.setIfInBounds_toArray, List.set_cons_zero, List.set_cons_succ, i64_w, i32_w]
        rfl
      refine pure_ (i := 10) (N := some 45) (v := ?_) (a' := ?_) #[true, true, false, true, true, false, true, true, false, true, true, false, false, false, false, false, false, false, false, false, false, false, false, false, false, false, false, false, false, false, false] rfl rfl (by kernel_rfl) (fun _ _ _ h => h) (Or.inl ⟨by rfl, ?_⟩) ?_ ?_
      rotate_left
      · intro w'
        go_simp
        with_reducible rfl
      rotate_left
      · simp only [Act.put, List.setIfInBounds_toArray, List.set_cons_zero, List.set_cons_succ, i64_w, i32_w]
        rfl
      refine pure_ (i := 13) (N := some 48) (v := ?_) (a' := ?_) #[true, true, false, true, true, false, true, true, false, true, true, false, false, true, false, false, false, false, false, false, false, false, false, false, false, false, false, false, false, false, false] rfl rfl (by kernel_rfl) (fun _ _ _ h => h) (Or.inl ⟨by rfl, ?_⟩) ?_ ?_
      rotate_left
      · intro w'
        go_simp
        with_reducible rfl
      rotate_left
      · simp only [Act.put, List.setIfInBounds_toArray, List.set_cons_zero, List.set_cons_succ, i64_w, i32_w]
        rfl
      refine pure_ (i := 14) (N := some 49) (v := ?_) (a' := ?_) #[true, true, false, true, true, false, true, true, false, true, true, false, false, true, true, false, false, false, false, false, false, false, false, false, false, false, false, false, false, false, false] rfl rfl (by kernel_rfl) (fun _ _ _ h => h) (Or.inl ⟨by rfl, ?_⟩) ?_ ?_
      rotate_left
      · intro w'
        go_simp
        with_reducible rfl
      rotate_left
      · simp only [Act.put, List.setIfInBounds_toArray, List.set_cons_zero, List.set_cons_succ, i64_w, i32_w]
        rfl
      refine pure_ (i := 16) (N := some 51) (v := ?_) (a' := ?_) #[true, true, false, true, true, false, true, true, false, true, true, false, false, true, true, false, true, false, false, false, false, false, false, false, false, false, false, false, false, false, false] rfl rfl (by kernel_rfl) (fun _ _ _ h => h) (Or.inl ⟨by rfl, ?_⟩) ?_ ?_
      rotate_left
      · intro w'
        go_simp
        with_reducible rfl
      rotate_left
      · simp only [Act.put, List.setIfInBounds_toArray, List.set_cons_zero, List.set_cons_succ, i64_w, i32_w]
        rfl
      refine pure_ (i := 17) (N := some 52) (v := ?_) (a' := ?_) #[true, true, false, true, true, false, true, true, false, true, true, false, false, true, true, false, true, true, false, false, false, false, false, false, false, false, false, false, false, false, false] rfl rfl (by kernel_rfl) (fun _ _ _ h => h) (Or.inl ⟨by rfl, ?_⟩) ?_ ?_
      rotate_left
      · intro w'
        go_simp
        with_reducible rfl
      rotate_left
      · simp only [Act.put, List.setIfInBounds_toArray, List.set_cons_zero, List.set_cons_succ, i64_w, i32_w]
        rfl
      refine pure_ (i := 19) (N := some 54) (v := ?_) (a' := ?_) #[true, true, false, true, true, false, true, true, false, true, true, false, false, true, true, false, true, true, false, true, false, false, false, false, false, false, false, false, false, false, false] rfl rfl (by kernel_rfl) (fun _ _ _ h => h) (Or.inl ⟨by rfl, ?_⟩) ?_ ?_
      rotate_left
      · intro w'
        go_simp
        with_reducible rfl
      rotate_left
      · simp only [Act.put, List.setIfInBounds_toArray, List.set_cons_zero, List.set_cons_succ, i64_w, i32_w]
        rfl
      refine pure_ (i := 20) (N := some 55) (v := ?_) (a' := ?_) #[true, true, false, true, true, false, true, true, false, true, true, false, false, true, true, false, true, true, false, true, true, false, false, false, false, false, false, false, false, false, false] rfl rfl (by kernel_rfl) (fun _ _ _ h => h) (Or.inl ⟨by rfl, ?_⟩) ?_ ?_
      rotate_left
      · intro w'
        go_simp
        with_reducible rfl
      rotate_left
      · simp only [Act.put, List.setIfInBounds_toArray, List.set_cons_zero, List.set_cons_succ, i64_w, i32_w]
        rfl
      refine pure_ (i := 22) (N := some 57) (v := ?_) (a' := ?_) #[true, true, false, true, true, false, true, true, false, true, true, false, false, true, true, false, true, true, false, true, true, false, true, false, false, false, false, false, false, false, false] rfl rfl (by kernel_rfl) (fun _ _ _ h => h) (Or.inl ⟨by rfl, ?_⟩) ?_ ?_
      rotate_left
      · intro w'
        go_simp
        with_reducible rfl
      rotate_left
      · simp only [Act.put, List.setIfInBounds_toArray, List.set_cons_zero, List.set_cons_succ, i64_w, i32_w]
        rfl
      refine pure_ (i := 23) (N := some 58) (v := ?_) (a' := ?_) #[true, true, false, true, true, false, true, true, false, true, true, false, false, true, true, false, true, true, false, true, true, false, true, true, false, false, false, false, false, false, false] rfl rfl (by kernel_rfl) (fun _ _ _ h => h) (Or.inl ⟨by rfl, ?_⟩) ?_ ?_
      rotate_left
      · intro w'
        go_simp
        with_reducible rfl
      rotate_left
      · simp only [Act.put, List.setIfInBounds_toArray, List.set_cons_zero, List.set_cons_succ, i64_w, i32_w]
        rfl
      refine pure_ (i := 25) (N := some 60) (v := ?_) (a' := ?_) #[true, true, false, true, true, false, true, true, false, true, true, false, false, true, true, false, true, true, false, true, true, false, true, true, false, true, false, false, false, false, false] rfl rfl (by kernel_rfl) (fun _ _ _ h => h) (Or.inl ⟨by rfl, ?_⟩) ?_ ?_
      rotate_left
      · intro w'
        go_simp
        with_reducible rfl
      rotate_left
      · simp only [Act.put, List.setIfInBounds_toArray, List.set_cons_zero, List.set_cons_succ, i64_w, i32_w]
        rfl
      refine pure_ (i := 26) (N := some 61) (v := ?_) (a' := ?_) #[true, true, false, true, true, false, true, true, false, true, true, false, false, true, true, false, true, true, false, true, true, false, true, true, false, true, true, false, false, false, false] rfl rfl (by kernel_rfl) (fun _ _ _ h => h) (Or.inl ⟨by rfl, ?_⟩) ?_ ?_
      rotate_left
      · intro w'
        go_simp
        with_reducible rfl
      rotate_left
      · simp only [Act.put, List.setIfInBounds_toArray, List.set_cons_zero, List.set_cons_succ, i64_w, i32_w]
        rfl
      refine take_ (i := 2) (N := some 37) (v := ?_) (a' := ?_) #[true, true, true, true, true, false, true, true, false, true, true, false, false, true, true, false, true, true, false, true, true, false, true, true, false, true, true, false, false, false, false] rfl rfl (by kernel_rfl) (fun _ _ _ h => h) (Or.inl ⟨by rfl, ?_⟩) hHeld ?_ ?_
      rotate_left
      · rintro w' ⟨e, e0, e1, e2, e3, e4, e5, e6, e7⟩
        go_simp
        with_reducible rfl
      rotate_left
      · simp only [Act.put, List.setIfInBounds_toArray, List.set_cons_zero, List.set_cons_succ, i64_w, i32_w]
        rfl
      refine take_ (i := 5) (N := some 40) (v := ?_) (a' := ?_) #[true, true, true, true, true, true, true, true, false, true, true, false, false, true, true, false, true, true, false, true, true, false, true, true, false, true, true, false, false, false, false] rfl rfl (by kernel_rfl) (fun _ _ _ h => h) (Or.inl ⟨by rfl, ?_⟩) hHeld ?_ ?_
      rotate_left
      · rintro w' ⟨e, e0, e1, e2, e3, e4, e5, e6, e7⟩
        go_simp
        with_reducible rfl
      rotate_left
      · simp only [Act.put, List.setIfInBounds_toArray, List.set_cons_zero, List.set_cons_succ, i64_w, i32_w]
        rfl
      refine take_ (i := 8) (N := some 43) (v := ?_) (a' := ?_) #[true, true, true, true, true, true, true, true, true, true, true, false, false, true, true, false, true, true, false, true, true, false, true, true, false, true, true, false, false, false, false] rfl rfl (by kernel_rfl) (fun _ _ _ h => h) (Or.inl ⟨by rfl, ?_⟩) hHeld ?_ ?_
      rotate_left
      · rintro w' ⟨e, e0, e1, e2, e3, e4, e5, e6, e7⟩
        go_simp
        with_reducible rfl
      rotate_left
      · simp only [Act.put, List.setIfInBounds_toArray, List.set_cons_zero, List.set_cons_succ, i64_w, i32_w]
        rfl
      refine take_ (i := 11) (N := some 46) (v := ?_) (a' := ?_) #[true, true, true, true, true, true, true, true, true, true, true, true, false, true, true, false, true, true, false, true, true, false, true, true, false, true, true, false, false, false, false] rfl rfl (by kernel_rfl) (fun _ _ _ h => h) (Or.inl ⟨by rfl, ?_⟩) hHeld ?_ ?_
      rotate_left
      · rintro w' ⟨e, e0, e1, e2, e3, e4, e5, e6, e7⟩
        go_simp
        with_reducible rfl
      rotate_left
      · simp only [Act.put, List.setIfInBounds_toArray, List.set_cons_zero, List.set_cons_succ, i64_w, i32_w]
        rfl
      refine take_ (i := 15) (N := some 50) (v := ?_) (a' := ?_) #[true, true, true, true, true, true, true, true, true, true, true, true, false, true, true, true, true, true, false, true, true, false, true, true, false, true, true, false, false, false, false] rfl rfl (by kernel_rfl) (fun _ _ _ h => h) (Or.inl ⟨by rfl, ?_⟩) hHeld ?_ ?_
      rotate_left
      · rintro w' ⟨e, e0, e1, e2, e3, e4, e5, e6, e7⟩
        go_simp
        with_reducible rfl
      rotate_left
      · simp only [Act.put, List.setIfInBounds_toArray, List.set_cons_zero, List.set_cons_succ, i64_w, i32_w]
        rfl
      refine take_ (i := 18) (N := some 53) (v := ?_) (a' := ?_) #[true, true, true, true, true, true, true, true, true, true, true, true, false, true, true, true, true, true, true, true, true, false, true, true, false, true, true, false, false, false, false] rfl rfl (by kernel_rfl) (fun _ _ _ h => h) (Or.inl ⟨by rfl, ?_⟩) hHeld ?_ ?_
      rotate_left
      · rintro w' ⟨e, e0, e1, e2, e3, e4, e5, e6, e7⟩
        go_simp
        with_reducible rfl
      rotate_left
      · simp only [Act.put, List.setIfInBounds_toArray, List.set_cons_zero, List.set_cons_succ, i64_w, i32_w]
        rfl
      refine take_ (i := 21) (N := some 56) (v := ?_) (a' := ?_) #[true, true, true, true, true, true, true, true, true, true, true, true, false, true, true, true, true, true, true, true, true, true, true, true, false, true, true, false, false, false, false] rfl rfl (by kernel_rfl) (fun _ _ _ h => h) (Or.inl ⟨by rfl, ?_⟩) hHeld ?_ ?_
      rotate_left
      · rintro w' ⟨e, e0, e1, e2, e3, e4, e5, e6, e7⟩
        go_simp
        with_reducible rfl
      rotate_left
      · simp only [Act.put, List.setIfInBounds_toArray, List.set_cons_zero, List.set_cons_succ, i64_w, i32_w]
        rfl
      refine take_ (i := 24) (N := some 59) (v := ?_) (a' := ?_) #[true, true, true, true, true, true, true, true, true, true, true, true, false, true, true, true, true, true, true, true, true, true, true, true, true, true, true, false, false, false, false] rfl rfl (by kernel_rfl) (fun _ _ _ h => h) (Or.inl ⟨by rfl, ?_⟩) hHeld ?_ ?_
      rotate_left
      · rintro w' ⟨e, e0, e1, e2, e3, e4, e5, e6, e7⟩
        go_simp
        with_reducible rfl
      rotate_left
      · simp only [Act.put, List.setIfInBounds_toArray, List.set_cons_zero, List.set_cons_succ, i64_w, i32_w]
        rfl
      refine take_ (i := 27) (N := some 62) (v := ?_) (a' := ?_) #[true, true, true, true, true, true, true, true, true, true, true, true, false, true, true, true, true, true, true, true, true, true, true, true, true, true, true, true, false, false, false] rfl rfl (by kernel_rfl) (fun _ _ _ h => h) (Or.inl ⟨by rfl, ?_⟩) hHeld ?_ ?_
      rotate_left
      · rintro w' ⟨e, e0, e1, e2, e3, e4, e5, e6, e7⟩
        go_simp
        with_reducible rfl
      rotate_left
      · simp only [Act.put, List.setIfInBounds_toArray, List.set_cons_zero, List.set_cons_succ, i64_w, i32_w]
        rfl
      refine pure_ (i := 12) (N := some 47) (v := ?_) (a' := ?_) #[true, true, true, true, true, true, true, true, true, true, true, true, true, true, true, true, true, true, true, true, true, true, true, true, true, true, true, true, false, false, false] rfl rfl (by kernel_rfl) (fun _ _ _ h => h) (Or.inl ⟨by rfl, ?_⟩) ?_ ?_
      rotate_left
      · intro w'
        go_simp
        with_reducible rfl
      rotate_left
      · simp only [Act.put, List.setIfInBounds_toArray, List.set_cons_zero, List.set_cons_succ, i64_w, i32_w]
        rfl
      refine pure_ (i := 28) (N := some 63) (v := ?_) (a' := ?_) #[true, true, true, true, true, true, true, true, true, true, true, true, true, true, true, true, true, true, true, true, true, true, true, true, true, true, true, true, true, false, false] rfl rfl (by kernel_rfl) (fun _ _ _ h => h) (Or.inl ⟨by rfl, ?_⟩) ?_ ?_
      rotate_left
      · intro w'
        go_simp
        with_reducible rfl
      rotate_left
      · simp only [Act.put, List.setIfInBounds_toArray, List.set_cons_zero, List.set_cons_succ, i64_w, i32_w]
        rfl
      refine one_ (i := 29) (N := some 8) #[true, true, true, true, true, true, true, true, true, true, true, true, true, true, true, true, true, true, true, true, true, true, true, true, true, true, true, true, true, true, false] rfl rfl (by kernel_rfl) (by decide) (fun K hK => ?_)
      refine value_ (w1 := ?_) (v := ?_) (by rfl) rfl ?_ ?_
      rotate_left 2
      · go_simp
        constructor
        · rfl
        · rfl
      refine hK.out _ _ (HSX.out _ (by repeat (first | exact Below.refl _ _ | apply bal | apply bext | apply bdr | apply bdrN | (refine bst ?_ _ (by simp only [ext_size, size_alloc, size_set]; omega))))) (fun hHeld => ?_)
      clear hK K
      refine norm_ (a' := ?_) ?_ ?_
      rotate_left
      · show Act.put _ (some 8) _ = _
        simp only [Act.put, List.setIfInBounds_toArray, List.set_cons_zero, List.set_cons_succ, i64_w, i32_w]
        rfl
      refine one_ (i := 30) (N := none) #[true, true, true, true, true, true, true, true, true, true, true, true, true, true, true, true, true, true, true, true, true, true, true, true, true, true, true, true, true, true, true] rfl rfl (by kernel_rfl) (by decide) (fun K hK => ?_)
      refine skip_ (w1 := ?_) (by rfl) rfl ?_ ?_
      rotate_left
      · go_simp
        rfl
      refine hK.out _ _ (HSX.out _ (by repeat (first | exact Below.refl _ _ | apply bal | apply bext | apply bdr | apply bdrN | (refine bst ?_ _ (by simp only [ext_size, size_alloc, size_set]; omega))))) (fun hHeld => ?_)
      clear hK K
      refine done_ (by kernel_rfl) ?_
      go_wp2_with fail
      refine (HI.out _).mono ?_
      rintro e W6 ⟨rfl, hb⟩
      have HBZ := Lib.hid (show Below W5.heap.size W5 W6 from bel (by repeat (first | exact Below.refl _ _ | apply bal | apply bext | apply bdr | apply bdrN | (refine bst ?_ _ (by simp only [ext_size, size_alloc, size_set]; omega)))) hb)
      have HK0 := Lib.hid (blk_call HBZ.out BK0.out)
      have HK1 := Lib.hid (blk_call HBZ.out BK1.out)
      have HK8 := Lib.hid (show W6.heap[W5.heap.size]? = some (.cells #[.string nm, .int .i64 n0, .int .i64 n1, .int .i64 n2, .int .i64 n3, .int .i64 n4, .int .i64 n5, .int .i64 n6, .int .i64 n7] 90 (0, 0)) from blk_call hb (blk_new _ _))
      have q0 : W6.cell? ⟨w.heap.size, 0, none⟩ = some (.slice A c.rs.length cap) := blk_cell HK0.out rfl
      have q1 : W6.cell? ⟨w.heap.size, 1, none⟩ = some (.slice TA c.ts.length tcap) := blk_cell HK0.out rfl
      have q2 : W6.cell? ⟨w.heap.size, 2, none⟩ = some (.int .i64 c.rep) := blk_cell HK0.out rfl
      have q3 : W6.cell? ⟨w.heap.size, 3, none⟩ = some (.int .i64 c.beat) := blk_cell HK0.out rfl
      have g0 : W6.frozen? ⟨w.heap.size + 1, 0, none⟩ = false := blk_free HK1.out 0
      have g1 : W6.frozen? ⟨w.heap.size + 1, 1, none⟩ = false := blk_free HK1.out 1
      have g2 : W6.frozen? ⟨w.heap.size + 1, 2, none⟩ = false := blk_free HK1.out 2
      have g3 : W6.frozen? ⟨w.heap.size + 1, 3, none⟩ = false := blk_free HK1.out 3
      have d0 : W6.cell? ⟨w.heap.size + 1, 0, none⟩ = some (.slice none 0 0) := blk_cell HK1.out rfl
      have d1 : W6.cell? ⟨w.heap.size + 1, 1, none⟩ = some (.slice none 0 0) := blk_cell HK1.out rfl
      have d2 : W6.cell? ⟨w.heap.size + 1, 2, none⟩ = some (.int .i64 0) := blk_cell HK1.out rfl
      have d3 : W6.cell? ⟨w.heap.size + 1, 3, none⟩ = some (.int .i64 0) := blk_cell HK1.out rfl
      have HB6 := Lib.hid (bel BD0.out HBZ.out)
      have R6 := Lib.hid (R5.out.stay HBZ.out)
      clear hb HSX BK0 BK1 R5 HI
      have HE' := Lib.hid (show res = (c.rs, 3) from HRE.out.trans (if_neg (by decide)))
      clear HRE
      go_wp2_with fail
      refine bodyPost_ret (results_ct rfl _ _ (w.heap.size + 1) 57 #[.slice A c.rs.length cap, .slice TA c.ts.length tcap, .int .i64 c.rep, .int .i64 c.beat] (0, 0) _ rfl (RT.out _ _ _ _ HK1.out) Tryz.underlying57 rfl (by kernel_rfl)) rfl ?_
      rw [HE'.out]
      exact ⟨_, rfl, bel_low hg (bset (bset (bset (bset HB6.out (Nat.le_succ _) _) (Nat.le_succ _) _) (Nat.le_succ _) _) (Nat.le_succ _) _), (KeptT.bel HB6.out).put4 (Nat.le_succ _) _ _ _ _, (((R6.out.set2 HK1.out 0 _).set2 (blk_put HK1.out 0 _ rfl) 1 _).set2 (blk_put (blk_put HK1.out 0 _ rfl) 1 _ rfl) 2 _).set2 (blk_put (blk_put (blk_put HK1.out 0 _ rfl) 1 _ rfl) 2 _ rfl) 3 _⟩
    · go_wp2_with fail
      refine start_ (n := 31) (S := NumR b (oo + 1) b2 o2 nm n0 n1 n2 n3 n4 n5 n6 n7) (ds := []) #[false, false, false, false, false, false, false, false, false, false, false, false, false, false, false, false, false, false, false, false, false, false, false, false, false, false, false, false, false, false, false] (by kernel_rfl) rfl rfl (HSX.out _ (Below.refl _ _).drew) (fun hHeld => ?_)
      refine pure_ (i := 0) (N := some 35) (v := ?_) (a' := ?_) #[true, false, false, false, false, false, false, false, false, false, false, false, false, false, false, false, false, false, false, false, false, false, false, false, false, false, false, false, false, false, false] rfl rfl (by kernel_rfl) (fun _ _ _ h => h) (Or.inl ⟨by rfl, ?_⟩) ?_ ?_
      rotate_left
      · intro w'
        go_simp
        with_reducible rfl
      rotate_left
      · simp only [Act.put, List.setIfInBounds_toArray, List.set_cons_zero, List.set_cons_succ, i64_w, i32_w]
        rfl
      refine pure_ (i := 1) (N := some 36) (v := ?_) (a' := ?_) #[true, true, false, false, false, false, false, false, false, false, false, false, false, false, false, false, false, false, false, false, false, false, false, false, false, false, false, false, false, false, false] rfl rfl (by kernel_rfl) (fun _ _ _ h => h) (Or.inl ⟨by rfl, ?_⟩) ?_ ?_
      rotate_left
      · intro w'
        go_simp
        with_reducible rfl
      rotate_left
      · simp only [Act.put, List.setIfInBounds_toArray, List.set_cons_zero, List.set_cons_succ, i64_w, i32_w]
        rfl
      refine pure_ (i := 3) (N := some 38) (v := ?_) (a' := ?_) #[true, true, false, true, false, false, false, false, false, false, false, false, false, false, false, false, false, false, false, false, false, false, false, false, false, false, false, false, false, false, false] rfl rfl (by kernel_rfl) (fun _ _ _ h => h) (Or.inl ⟨by rfl, ?_⟩) ?_ ?_
      rotate_left
      · intro w'
        go_simp
        with_reducible rfl
      rotate_left
      · simp only [Act.put, List.setIfInBounds_toArray, List.set_cons_zero, List.set_cons_succ, i64_w, i32_w]
        rfl
      refine pure_ (i := 4) (N := some 39) (v := ?_) (a' := ?_) #[true, true, false, true, true, false, false, false, false, false, false, false, false, false, false, false, false, false, false, false, false, false, false, false, false, false, false, false, false, false, false] rfl rfl (by kernel_rfl) (fun _ _ _ h => h) (Or.inl ⟨by rfl, ?_⟩) ?_ ?_
      rotate_left
      · intro w'
        go_simp
        with_reducible rfl
      rotate_left
      · simp only [Act.put, List.setIfInBounds_toArray, List.set_cons_zero, List.set_cons_succ, i64_w, i32_w]
        rfl
      refine pure_ (i := 6) (N := some 41) (v := ?_) (a' := ?_) #[true, true, false, true, true, false, true, false, false, false, false, false, false, false, false, false, false, false, false, false, false, false, false, false, false, false, false, false, false, false, false] rfl rfl (by kernel_rfl) (fun _ _ _ h => h) (Or.inl ⟨by rfl, ?_⟩) ?_ ?_
      rotate_left
      · intro w'
        go_simp
        with_reducible rfl
      rotate_left
      · simp only [Act.put, List.setIfInBounds_toArray, List.set_cons_zero, List.set_cons_succ, i64_w, i32_w]
        rfl
      refine pure_ (i := 7) (N := some 42) (v := ?_) (a' := ?_) #[true, true, false, true, true, false, true, true, false, false, false, false, false, false, false, false, false, false, false, false, false, false, false, false, false, false, false, false, false, false, false] rfl rfl (by kernel_rfl) (fun _ _ _ h => h) (Or.inl ⟨by rfl, ?_⟩) ?_ ?_
      rotate_left
      · intro w'
        go_simp
        with_reducible rfl
      rotate_left
      · simp only [Act.put, List.setIfInBounds_toArray, List.set_cons_zero, List.set_cons_succ, i64_w, i32_w]
        rfl
      refine pure_ (i := 9) (N := some 44) (v := ?_) (a' := ?_) #[true, true, false, true, true, false, true, true, false, true, false, false, false, false, false, false, false, false, false, false, false, false, false, false, false, false, false, false, false, false, false] rfl rfl (by kernel_rfl) (fun _ _ _ h => h) (Or.inl ⟨by rfl, ?_⟩) ?_ ?_
      rotate_left
      · intro w'
        go_simp
        with_reducible rfl
      rotate_left
      · simp only [Act.put, List.setIfInBounds_toArray, List.set_cons_zero, List.set_cons_succ, i64_w, i32_w]
        rfl
      refine pure_ (i := 10) (N := some 45) (v := ?_) (a' := ?_) #[true, true, false, true, true, false, true, true, false, true, true, false, false, false, false, false, false, false, false, false, false, false, false, false, false, false, false, false, false, false, false] rfl rfl (by kernel_rfl) (fun _ _ _ h => h) (Or.inl ⟨by rfl, ?_⟩) ?_ ?_
      rotate_left
      · intro w'
        go_simp
        with_reducible rfl
      rotate_left
      · simp only [Act.put, List.setIfInBounds_toArray, List.set_cons_zero, List.set_cons_succ, i64_w, i32_w]
        rfl
      refine pure_ (i := 13) (N := some 48) (v := ?_) (a' := ?_) #[true, true, false, true, true, false, true, true, false, true, true, false, false, true, false, false, false, false, false, false, false, false, false, false, false, false, false, false, false, false, false] rfl rfl (by kernel_rfl) (fun _ _ _ h => h) (Or.inl ⟨by rfl, ?_⟩) ?_ ?_
      rotate_left
      · intro w'
        go_simp
        with_reducible rfl
      rotate_left
      · simp only [Act.put, List.setIfInBounds_toArray, List.set_cons_zero, List.set_cons_succ, i64_w, i32_w]
        rfl
      refine pure_ (i := 14) (N := some 49) (v := ?_) (a' := ?_) #[true, true, false, true, true, false, true, true, false, true, true, false, false, true, true, false, false, false, false, false, false, false, false, false, false, false, false, false, false, false, false] rfl rfl (by kernel_rfl) (fun _ _ _ h => h) (Or.inl ⟨by rfl, ?_⟩) ?_ ?_
      rotate_left
      · intro w'
        go_simp
        with_reducible rfl
      rotate_left
      · simp only [Act.put, List.setIfInBounds_toArray, List.set_cons_zero, List.set_cons_succ, i64_w, i32_w]
        rfl
      refine pure_ (i := 16) (N := some 51) (v := ?_) (a' := ?_) #[true, true, false, true, true, false, true, true, false, true, true, false, false, true, true, false, true, false, false, false, false, false, false, false, false, false, false, false, false, false, false] rfl rfl (by kernel_rfl) (fun _ _ _ h => h) (Or.inl ⟨by rfl, ?_⟩) ?_ ?_
      rotate_left
      · intro w'
        go_simp
        with_reducible rfl
      rotate_left
      · simp only [Act.put, List.setIfInBounds_toArray, List.set_cons_zero, List.set_cons_succ, i64_w, i32_w]
        rfl
      refine pure_ (i := 17) (N := some 52) (v := ?_) (a' := ?_) #[true, true, false, true, true, false, true, true, false, true, true, false, false, true, true, false, true, true, false, false, false, false, false, false, false, false, false, false, false, false, false] rfl rfl (by kernel_rfl) (fun _ _ _ h => h) (Or.inl ⟨by rfl, ?_⟩) ?_ ?_
      rotate_left
      · intro w'
        go_simp
        with_reducible rfl
      rotate_left
      · simp only [Act.put, List.setIfInBounds_toArray, List.set_cons_zero, List.set_cons_succ, i64_w, i32_w]
        rfl
      refine pure_ (i := 19) (N := some 54) (v := ?_) (a' := ?_) #[true, true, false, true, true, false, true, true, false, true, true, false, false, true, true, false, true, true, false, true, false, false, false, false, false, false, false, false, false, false, false] rfl rfl (by kernel_rfl) (fun _ _ _ h => h) (Or.inl ⟨by rfl, ?_⟩) ?_ ?_
      rotate_left
      · intro w'
        go_simp
        with_reducible rfl
      rotate_left
      · simp only [Act.put, List.setIfInBounds_toArray, List.set_cons_zero, List.set_cons_succ, i64_w, i32_w]
        rfl
      refine pure_ (i := 20) (N := some 55) (v := ?_) (a' := ?_) #[true, true, false, true, true, false, true, true, false, true, true, false, false, true, true, false, true, true, false, true, true, false, false, false, false, false, false, false, false, false, false] rfl rfl (by kernel_rfl) (fun _ _ _ h => h) (Or.inl ⟨by rfl, ?_⟩) ?_ ?_
      rotate_left
      · intro w'
        go_simp
        with_reducible rfl
      rotate_left
      · simp only [Act.put, List.setIfInBounds_toArray, List.set_cons_zero, List.set_cons_succ, i64_w, i32_w]
        rfl
      refine pure_ (i := 22) (N := some 57) (v := ?_) (a' := ?_) #[true, true, false, true, true, false, true, true, false, true, true, false, false, true, true, false, true, true, false, true, true, false, true, false, false, false, false, false, false, false, false] rfl rfl (by kernel_rfl) (fun _ _ _ h => h) (Or.inl ⟨by rfl, ?_⟩) ?_ ?_
      rotate_left
      · intro w'
        go_simp
        with_reducible rfl
      rotate_left
      · simp only [Act.put, List.setIfInBounds_toArray, List.set_cons_zero, List.set_cons_succ, i64_w, i32_w]
        rfl
      refine pure_ (i := 23) (N := some 58) (v := ?_) (a' := ?_) #[true, true, false, true, true, false, true, true, false, true, true, false, false, true, true, false, true, true, false, true, true, false, true, true, false, false, false, false, false, false, false] rfl rfl (by kernel_rfl) (fun _ _ _ h => h) (Or.inl ⟨by rfl, ?_⟩) ?_ ?_
      rotate_left
      · intro w'
        go_simp
        with_reducible rfl
      rotate_left
      · simp only [Act.put, List.setIfInBounds_toArray, List.set_cons_zero, List.set_cons_succ, i64_w, i32_w]
        rfl
      refine pure_ (i := 25) (N := some 60) (v := ?_) (a' := ?_) #[true, true, false, true, true, false, true, true, false, true, true, false, false, true, true, false, true, true, false, true, true, false, true, true, false, true, false, false, false, false, false] rfl rfl (by kernel_rfl) (fun _ _ _ h => h) (Or.inl ⟨by rfl, ?_⟩) ?_ ?_
      rotate_left
      · intro w'
        go_simp
        with_reducible rfl
      rotate_left
      · simp only [Act.put, List.setIfInBounds_toArray, List.set_cons_zero, List.set_cons_succ, i64_w, i32_w]
        rfl
      refine pure_ (i := 26) (N := some 61) (v := ?_) (a' := ?_) #[true, true, false, true, true, false, true, true, false, true, true, false, false, true, true, false, true, true, false, true, true, false, true, true, false, true, true, false, false, false, false] rfl rfl (by kernel_rfl) (fun _ _ _ h => h) (Or.inl ⟨by rfl, ?_⟩) ?_ ?_
      rotate_left
      · intro w'
        go_simp
        with_reducible rfl
      rotate_left
      · simp only [Act.put, List.setIfInBounds_toArray, List.set_cons_zero, List.set_cons_succ, i64_w, i32_w]
        rfl
      refine take_ (i := 2) (N := some 37) (v := ?_) (a' := ?_) #[true, true, true, true, true, false, true, true, false, true, true, false, false, true, true, false, true, true, false, true, true, false, true, true, false, true, true, false, false, false, false] rfl rfl (by kernel_rfl) (fun _ _ _ h => h) (Or.inl ⟨by rfl, ?_⟩) hHeld ?_ ?_
      rotate_left
      · rintro w' ⟨e, e0, e1, e2, e3, e4, e5, e6, e7⟩
        go_simp
        with_reducible rfl
      rotate_left
      · simp only [Act.put, List.setIfInBounds_toArray, List.set_cons_zero, List.set_cons_succ, i64_w, i32_w]
        rfl
      refine take_ (i := 5) (N := some 40) (v := ?_) (a' := ?_) #[true, true, true, true, true, true, true, true, false, true, true, false, false, true, true, false, true, true, false, true, true, false, true, true, false, true, true, false, false, false, false] rfl rfl (by kernel_rfl) (fun _ _ _ h => h) (Or.inl ⟨by rfl, ?_⟩) hHeld ?_ ?_
      rotate_left
      · rintro w' ⟨e, e0, e1, e2, e3, e4, e5, e6, e7⟩
        go_simp
        with_reducible rfl
      rotate_left
      · simp only [Act.put, List.setIfInBounds_toArray, List.set_cons_zero, List.set_cons_succ, i64_w, i32_w]
        rfl
      refine take_ (i := 8) (N := some 43) (v := ?_) (a' := ?_) #[true, true, true, true, true, true, true, true, true, true, true, false, false, true, true, false, true, true, false, true, true, false, true, true, false, true, true, false, false, false, false] rfl rfl (by kernel_rfl) (fun _ _ _ h => h) (Or.inl ⟨by rfl, ?_⟩) hHeld ?_ ?_
      rotate_left
      · rintro w' ⟨e, e0, e1, e2, e3, e4, e5, e6, e7⟩
        go_simp
        with_reducible rfl
      rotate_left
      · simp only [Act.put, List.setIfInBounds_toArray, List.set_cons_zero, List.set_cons_succ, i64_w, i32_w]
        rfl
      refine take_ (i := 11) (N := some 46) (v := ?_) (a' := ?_) #[true, true, true, true, true, true, true, true, true, true, true, true, false, true, true, false, true, true, false, true, true, false, true, true, false, true, true, false, false, false, false] rfl rfl (by kernel_rfl) (fun _ _ _ h => h) (Or.inl ⟨by rfl, ?_⟩) hHeld ?_ ?_
      rotate_left
      · rintro w' ⟨e, e0, e1, e2, e3, e4, e5, e6, e7⟩
        go_simp
        with_reducible rfl
      rotate_left
      · simp only [Act.put, List.setIfInBounds_toArray, List.set_cons_zero, List.set_cons_succ, i64_w, i32_w]
        rfl
      refine take_ (i := 15) (N := some 50) (v := ?_) (a' := ?_) #[true, true, true, true, true, true, true, true, true, true, true, true, false, true, true, true, true, true, false, true, true, false, true, true, false, true, true, false, false, false, false] rfl rfl (by kernel_rfl) (fun _ _ _ h => h) (Or.inl ⟨by rfl, ?_⟩) hHeld ?_ ?_
      rotate_left
      · rintro w' ⟨e, e0, e1, e2, e3, e4, e5, e6, e7⟩
        go_simp
        with_reducible rfl
      rotate_left
      · simp only [Act.put, List.setIfInBounds_toArray, List.set_cons_zero, List.set_cons_succ, i64_w, i32_w]
        rfl
      refine take_ (i := 18) (N := some 53) (v := ?_) (a' := ?_) #[true, true, true, true, true, true, true, true, true, true, true, true, false, true, true, true, true, true, true, true, true, false, true, true, false, true, true, false, false, false, false] rfl rfl (by kernel_rfl) (fun _ _ _ h => h) (Or.inl ⟨by rfl, ?_⟩) hHeld ?_ ?_
      rotate_left
      · rintro w' ⟨e, e0, e1, e2, e3, e4, e5, e6, e7⟩
        go_simp
        with_reducible rfl
      rotate_left
      · simp only [Act.put, List.setIfInBounds_toArray, List.set_cons_zero, List.set_cons_succ, i64_w, i32_w]
        rfl
      refine take_ (i := 21) (N := some 56) (v := ?_) (a' := ?_) #[true, true, true, true, true, true, true, true, true, true, true, true, false, true, true, true, true, true, true, true, true, true, true, true, false, true, true, false, false, false, false] rfl rfl (by kernel_rfl) (fun _ _ _ h => h) (Or.inl ⟨by rfl, ?_⟩) hHeld ?_ ?_
      rotate_left
      · rintro w' ⟨e, e0, e1, e2, e3, e4, e5, e6, e7⟩
        go_simp
        with_reducible rfl
      rotate_left
      · simp only [Act.put, List.setIfInBounds_toArray, List.set_cons_zero, List.set_cons_succ, i64_w, i32_w]
        rfl
      refine take_ (i := 24) (N := some 59) (v := ?_) (a' := ?_) #[true, true, true, true, true, true, true, true, true, true, true, true, false, true, true, true, true, true, true, true, true, true, true, true, true, true, true, false, false, false, false] rfl rfl (by kernel_rfl) (fun _ _ _ h => h) (Or.inl ⟨by rfl, ?_⟩) hHeld ?_ ?_
      rotate_left
      · rintro w' ⟨e, e0, e1, e2, e3, e4, e5, e6, e7⟩
        go_simp
        with_reducible rfl
      rotate_left
      · simp only [Act.put, List.setIfInBounds_toArray, List.set_cons_zero, List.set_cons_succ, i64_w, i32_w]
        rfl
      refine take_ (i := 27) (N := some 62) (v := ?_) (a' := ?_) #[true, true, true, true, true, true, true, true, true, true, true, true, false, true, true, true, true, true, true, true, true, true, true, true, true, true, true, true, false, false, false] rfl rfl (by kernel_rfl) (fun _ _ _ h => h) (Or.inl ⟨by rfl, ?_⟩) hHeld ?_ ?_
      rotate_left
      · rintro w' ⟨e, e0, e1, e2, e3, e4, e5, e6, e7⟩
        go_simp
        with_reducible rfl
      rotate_left
      · simp only [Act.put, List.setIfInBounds_toArray, List.set_cons_zero, List.set_cons_succ, i64_w, i32_w]
        rfl
      refine pure_ (i := 12) (N := some 47) (v := ?_) (a' := ?_) #[true, true, true, true, true, true, true, true, true, true, true, true, true, true, true, true, true, true, true, true, true, true, true, true, true, true, true, true, false, false, false] rfl rfl (by kernel_rfl) (fun _ _ _ h => h) (Or.inl ⟨by rfl, ?_⟩) ?_ ?_
      rotate_left
      · intro w'
        go_simp
        with_reducible rfl
      rotate_left
      · simp only [Act.put, List.setIfInBounds_toArray, List.set_cons_zero, List.set_cons_succ, i64_w, i32_w]
        rfl
      refine pure_ (i := 28) (N := some 63) (v := ?_) (a' := ?_) #[true, true, true, true, true, true, true, true, true, true, true, true, true, true, true, true, true, true, true, true, true, true, true, true, true, true, true, true, true, false, false] rfl rfl (by kernel_rfl) (fun _ _ _ h => h) (Or.inl ⟨by rfl, ?_⟩) ?_ ?_
      rotate_left
      · intro w'
        go_simp
        with_reducible rfl
      rotate_left
      · simp only [Act.put, List.setIfInBounds_toArray, List.set_cons_zero, List.set_cons_succ, i64_w, i32_w]
        rfl
      refine one_ (i := 29) (N := some 8) #[true, true, true, true, true, true, true, true, true, true, true, true, true, true, true, true, true, true, true, true, true, true, true, true, true, true, true, true, true, true, false] rfl rfl (by kernel_rfl) (by decide) (fun K hK => ?_)
      refine value_ (w1 := ?_) (v := ?_) (by rfl) rfl ?_ ?_
      rotate_left 2
      · go_simp
        constructor
        · rfl
        · rfl
      refine hK.out _ _ (HSX.out _ (by repeat (first | exact Below.refl _ _ | apply bal | apply bext | apply bdr | apply bdrN | (refine bst ?_ _ (by simp only [ext_size, size_alloc, size_set]; omega))))) (fun hHeld => ?_)
      clear hK K
      refine norm_ (a' := ?_) ?_ ?_
      rotate_left
      · show Act.put _ (some 8) _ = _
        simp only [Act.put, List.setIfInBounds_toArray, List.set_cons_zero, List.set_cons_succ, i64_w, i32_w]
        rfl
      refine one_ (i := 30) (N := none) #[true, true, true, true, true, true, true, true, true, true, true, true, true, true, true, true, true, true, true, true, true, true, true, true, true, true, true, true, true, true, true] rfl rfl (by kernel_rfl) (by decide) (fun K hK => ?_)
      refine skip_ (w1 := ?_) (by rfl) rfl ?_ ?_
      rotate_left
      · go_simp
        rfl
      refine hK.out _ _ (HSX.out _ (by repeat (first | exact Below.refl _ _ | apply bal | apply bext | apply bdr | apply bdrN | (refine bst ?_ _ (by simp only [ext_size, size_alloc, size_set]; omega))))) (fun hHeld => ?_)
      clear hK K
      refine done_ (by kernel_rfl) ?_
      go_wp2_with fail
      refine (HI.out _).mono ?_
      rintro e W6 ⟨rfl, hb⟩
      have HBZ := Lib.hid (show Below W5.heap.size W5 W6 from bel (by repeat (first | exact Below.refl _ _ | apply bal | apply bext | apply bdr | apply bdrN | (refine bst ?_ _ (by simp only [ext_size, size_alloc, size_set]; omega)))) hb)
      have HK0 := Lib.hid (blk_call HBZ.out BK0.out)
      have HK1 := Lib.hid (blk_call HBZ.out BK1.out)
      have HK8 := Lib.hid (show W6.heap[W5.heap.size]? = some (.cells #[.string nm, .int .i64 n0, .int .i64 n1, .int .i64 n2, .int .i64 n3, .int .i64 n4, .int .i64 n5, .int .i64 n6, .int .i64 n7] 90 (0, 0)) from blk_call hb (blk_new _ _))
      have q0 : W6.cell? ⟨w.heap.size, 0, none⟩ = some (.slice A c.rs.length cap) := blk_cell HK0.out rfl
      have q1 : W6.cell? ⟨w.heap.size, 1, none⟩ = some (.slice TA c.ts.length tcap) := blk_cell HK0.out rfl
      have q2 : W6.cell? ⟨w.heap.size, 2, none⟩ = some (.int .i64 c.rep) := blk_cell HK0.out rfl
      have q3 : W6.cell? ⟨w.heap.size, 3, none⟩ = some (.int .i64 c.beat) := blk_cell HK0.out rfl
      have g0 : W6.frozen? ⟨w.heap.size + 1, 0, none⟩ = false := blk_free HK1.out 0
      have g1 : W6.frozen? ⟨w.heap.size + 1, 1, none⟩ = false := blk_free HK1.out 1
      have g2 : W6.frozen? ⟨w.heap.size + 1, 2, none⟩ = false := blk_free HK1.out 2
      have g3 : W6.frozen? ⟨w.heap.size + 1, 3, none⟩ = false := blk_free HK1.out 3
      have d0 : W6.cell? ⟨w.heap.size + 1, 0, none⟩ = some (.slice none 0 0) := blk_cell HK1.out rfl
      have d1 : W6.cell? ⟨w.heap.size + 1, 1, none⟩ = some (.slice none 0 0) := blk_cell HK1.out rfl
      have d2 : W6.cell? ⟨w.heap.size + 1, 2, none⟩ = some (.int .i64 0) := blk_cell HK1.out rfl
      have d3 : W6.cell? ⟨w.heap.size + 1, 3, none⟩ = some (.int .i64 0) := blk_cell HK1.out rfl
      have HB6 := Lib.hid (bel BD0.out HBZ.out)
      have R6 := Lib.hid (R5.out.stay HBZ.out)
      clear hb HSX BK0 BK1 R5 HI
      have HE' := Lib.hid (show res = (c.rs ++ [x], 0) from HRE.out.trans (if_pos trivial))
      have h6 := blk_lt HK8.out
      have p0 : W6.cell? ⟨W5.heap.size, 0, none⟩ = some (.string nm) := blk_cell HK8.out rfl
      have p1 : W6.cell? ⟨W5.heap.size, 1, none⟩ = some (.int .i64 n0) := blk_cell HK8.out rfl
      have p2 : W6.cell? ⟨W5.heap.size, 2, none⟩ = some (.int .i64 n1) := blk_cell HK8.out rfl
      have p3 : W6.cell? ⟨W5.heap.size, 3, none⟩ = some (.int .i64 n2) := blk_cell HK8.out rfl
      have p4 : W6.cell? ⟨W5.heap.size, 4, none⟩ = some (.int .i64 n3) := blk_cell HK8.out rfl
      have p5 : W6.cell? ⟨W5.heap.size, 5, none⟩ = some (.int .i64 n4) := blk_cell HK8.out rfl
      have p6 : W6.cell? ⟨W5.heap.size, 6, none⟩ = some (.int .i64 n5) := blk_cell HK8.out rfl
      have p7 : W6.cell? ⟨W5.heap.size, 7, none⟩ = some (.int .i64 n6) := blk_cell HK8.out rfl
      have p8 : W6.cell? ⟨W5.heap.size, 8, none⟩ = some (.int .i64 n7) := blk_cell HK8.out rfl
      clear HRE
      go_wp2_with (first | ((with_reducible refine gate_builtin (b := .append) (xs := #[.tmp 69, .tmp 71]) rfl ?_); refine Hid.out ?_))
      refine Lib.hid ?_
      refine Kd.R_append k90 (w0 := w) g rfl (.tmp 69) (.tmp 71) 54 90 (.agg #[.string ⟨#[]⟩, .int .i64 0, .int .i64 0, .int .i64 0, .int .i64 0, .int .i64 0, .int .i64 0, .int .i64 0, .int .i64 0]) 80 rfl Tryz.underlying54 infoRcv rfl (by decide) (by omega) (.slice A c.rs.length cap) (c.rs.map ofRcv) (ofRcv x) [.string nm, .int .i64 n0, .int .i64 n1, .int .i64 n2, .int .i64 n3, .int .i64 n4, .int .i64 n5, .int .i64 n6, .int .i64 n7] (fun _ => True) (fun _ => False) rfl ?aX ?aP (fun _ hk => hk.elim) (fun _ _ => trivial) ?aO ?aB ?aS ?aL ?_
      case aX => rfl
      case aP => have hmk := k90_mkM W6 g (fun _ => False) (ofRcv x); rw [HXX.out] at hmk ⊢; exact hmk
      case aO => exact R6.out.rs
      case aB => exact bel_low hg HB6.out
      case aS => have := HB6.out.size; omega
      case aL => rw [List.length_map]; omega
      intro v1 w6 ho hb6 hg6 hat
      obtain ⟨A1, cap1, rfl⟩ := Kd.R_slice ho
      have hl1 : (c.rs.map ofRcv ++ [ofRcv x]).length = c.rs.length + 1 := by rw [List.length_append, List.length_map]; rfl
      rw [hl1] at ho hat ⊢
      clear hl1
      have hneA : ∀ (b : Nat) (cs : Array Value), W6.heap[b]? = some (.cells cs 57 (0, 0)) → some b ≠ (Value.slice A c.rs.length cap).ownBlock := fun b cs hb => Kd.R_ne R6.out.rs hb (by decide)
      have HH0 := Lib.hid (blk_grown HK0.out hg6 (hneA _ _ HK0.out))
      have HH1 := Lib.hid (blk_grown HK1.out hg6 (hneA _ _ HK1.out))
      have HT6 := Lib.hid (Kd.S_over' R6.out.ts (Kd.R_typed R6.out.rs) (by decide) hg6)
      have KT6 := Lib.hid ((KeptT.bel HB6.out).trans (KeptT.grow hg6 (Kd.R_typed R6.out.rs) (.inl rfl)))
      have HO6 := Lib.hid ho
      have HL6 := Lib.hid hb6
      have hr0 : w6.cell? ⟨w.heap.size, 0, none⟩ = some (.slice A c.rs.length cap) := blk_cell HH0.out rfl
      have hr1 : w6.cell? ⟨w.heap.size, 1, none⟩ = some (.slice TA c.ts.length tcap) := blk_cell HH0.out rfl
      have hr2 : w6.cell? ⟨w.heap.size, 2, none⟩ = some (.int .i64 c.rep) := blk_cell HH0.out rfl
      have hr3 : w6.cell? ⟨w.heap.size, 3, none⟩ = some (.int .i64 c.beat) := blk_cell HH0.out rfl
      have hs0 : w6.frozen? ⟨w.heap.size, 0, none⟩ = false := blk_free HH0.out 0
      have ht0 : w6.frozen? ⟨w.heap.size + 1, 0, none⟩ = false := blk_free HH1.out 0
      have ht1 : w6.frozen? ⟨w.heap.size + 1, 1, none⟩ = false := blk_free HH1.out 1
      have ht2 : w6.frozen? ⟨w.heap.size + 1, 2, none⟩ = false := blk_free HH1.out 2
      have ht3 : w6.frozen? ⟨w.heap.size + 1, 3, none⟩ = false := blk_free HH1.out 3
      have hu0 : w6.cell? ⟨w.heap.size + 1, 0, none⟩ = some (.slice none 0 0) := blk_cell HH1.out rfl
      have hu1 : w6.cell? ⟨w.heap.size + 1, 1, none⟩ = some (.slice none 0 0) := blk_cell HH1.out rfl
      have hu2 : w6.cell? ⟨w.heap.size + 1, 2, none⟩ = some (.int .i64 0) := blk_cell HH1.out rfl
      have hu3 : w6.cell? ⟨w.heap.size + 1, 3, none⟩ = some (.int .i64 0) := blk_cell HH1.out rfl
      clear ho hb6 hg6 hat hneA HK0 HK1 HK8 q0 q1 q2 q3 g0 g1 g2 g3 d0 d1 d2 d3 p0 p1 p2 p3 p4 p5 p6 p7 p8
      go_wp2_with fail
      have B0 := blk_put HH0.out 0 (.slice A1 (c.rs.length + 1) cap1) rfl
      have B1 := blk_set_far HH1.out (a := ⟨w.heap.size, 0, none⟩) (by simp) (.slice A1 (c.rs.length + 1) cap1)
      refine bodyPost_ret (results_ct rfl _ _ (w.heap.size + 1) 57 #[.slice A1 (c.rs.length + 1) cap1, .slice TA c.ts.length tcap, .int .i64 c.rep, .int .i64 c.beat] (0, 0) _ rfl (RT.out _ _ _ _ B1) Tryz.underlying57 rfl (by kernel_rfl)) rfl ?_
      rw [HE'.out]
      have hle : g ≤ w.heap.size + 1 := by omega
      refine ⟨_, rfl, bset (bset (bset (bset (bset HL6.out hg _) hle _) hle _) hle _) hle _, (KT6.out.set (Nat.le_refl _) _).put4 (Nat.le_succ _) _ _ _ _, ?_⟩
      have hC6 : CfA w6 g (.slice A1 (c.rs.length + 1) cap1) (.slice TA c.ts.length tcap) { c with rs := c.rs ++ [x] } := ⟨by rw [List.map_append]; exact HO6.out, HT6.out, by show (c.rs ++ [x]).length ≤ 4; rw [List.length_append, List.length_singleton]; omega, R6.out.tl⟩
      exact ((((hC6.set2 HH0.out 0 _).set2 B1 0 _).set2 (blk_put B1 0 _ rfl) 1 _).set2 (blk_put (blk_put B1 0 _ rfl) 1 _ rfl) 2 _).set2 (blk_put (blk_put (blk_put B1 0 _ rfl) 1 _ rfl) 2 _ rfl) 3 _
end Go.Proofs.YtjfknmlchdifjaaGreatDoor
namespace Go.Proofs.YtjfknmlchdifjaaGreatDoor
open Go.RowKit Go.Proofs.YtjfknmlchdifjaaGreatDoorQ Go.Proofs.YtjfknmlchdifjaaGreatDoorQ.P Go.Proofs.YtjfknmlchdifjaaGreatDoorW.PrintWords Go.Proofs.YtjfknmlchdifjaaGreatDoorW.PrintLast Go.Proofs.YtjfknmlchdifjaaGreatDoorW.PrintMore
attribute [local go_sem high] ext_size ext_cell ext_frozen alloc_cell alloc_frozen
attribute [local go_sem] lt_more lt_suc drew_size drew_cell
theorem rteS_no {rs : List Rcv} {ts : List Rte} {ws : List ByteArray} (h4 : ts.length ≠ 4) (h : ∀ j (hj : j < ws.length), 1 ≤ j → isIf ws[j] = false) : rteS rs ts ws = (ts, 12) := by
  unfold rteS
  rw [if_neg h4, if_pos]
  rw [idxOf_none (fun k hk => by
    rw [List.getElem_drop]
    exact h _ _ (by omega))]
  decide
theorem rteS_if {rs : List Rcv} {ts : List Rte} {ws : List ByteArray} {q : Nat} (h4 : ts.length ≠ 4) (hq : q < ws.length) (h1 : 1 ≤ q) (hi : isIf ws[q] = true) (h : ∀ j (hj : j < ws.length), 1 ≤ j → j < q → isIf ws[j] = false) :
    rteS rs ts ws = rteC rs ts (asksP (ws.drop (q + 1))) (placesP rs ((ws.drop 1).take (q - 1))) := by
  have e : idxOf isIf (ws.drop 1) = ((q - 1 : Nat) : Int) := by
    refine idxOf_found (i := q - 1) (by rw [List.length_drop]; omega) ?_ (fun j hj => ?_)
    · rw [List.getElem_drop]
      have : 1 + (q - 1) = q := by omega
      simp only [this]
      exact hi
    · rw [List.getElem_drop]
      exact h _ _ (by omega) (by omega)
  unfold rteS
  rw [if_neg h4, e, if_neg (by omega), Int.toNat_natCast]
  have : 2 + (q - 1) = q + 1 := by omega
  rw [this]
theorem rasked_no (x : ByteArray) (W : World) (hs : x.size ≤ 100000) (hq : askP x.data.toList = none) :
    Calls Tryz.prog 13 #[.string x] W fun e w' => ∃ k n v, e = .returned (.tuple #[.agg #[.int .i64 k, .string n, .string v], .bool false]) ∧ Below W.heap.size W w' := by
  have h := ask_f hs (k := 6 * x.size + 1) (Nat.lt_succ_self _)
  cases hc : cutP signB x.data.toList with
  | none =>
    rw [hc] at h
    exact (foghornref12_Asked.calls _ _ _ _ _ _ W h).mono fun e w' ⟨h1, h2⟩ => ⟨_, _, _, h1, h2⟩
  | some r =>
    rw [hc] at h
    have hb : matB (askM r) = false := by
      unfold askP at hq
      rw [hc] at hq
      cases hm : matB (askM r) with
      | false => rfl
      | true => simp [hm] at hq
    have h' := h.trans (show some (askR (some r)) = some ((askR (some r)).1, (askR (some r)).2.1, (askR (some r)).2.2.1, (askR (some r)).2.2.2) from rfl)
    have e4 : (askR (some r)).2.2.2 = false := by
      unfold askR
      first | (rw [hb]; rfl) | simp [hb]
    rw [e4] at h'
    exact (foghornref12_Asked.calls _ _ _ _ _ _ W h').mono fun e w' ⟨h1, h2⟩ => ⟨_, _, _, h1, h2⟩
theorem rasked_yes (x : ByteArray) (m : Mat) (W : World) (hs : x.size ≤ 100000) (hq : askP x.data.toList = some m) :
    Calls Tryz.prog 13 #[.string x] W fun e w' => e = .returned (.tuple #[.agg #[.int .i64 m.kind, .string m.name, .string m.value], .bool true]) ∧ Below W.heap.size W w' := by
  have h := ask_f hs (k := 6 * x.size + 1) (Nat.lt_succ_self _)
  unfold askP at hq
  cases hc : cutP signB x.data.toList with
  | none => rw [hc] at hq; cases hq
  | some r =>
    rw [hc] at h hq
    by_cases hb : matB (askM r) = true
    · have e := Option.some.inj ((if_pos hb).symm.trans hq)
      have h' : foghornref12_Asked.f (6 * x.size + 1) x = some (m.kind, m.name, m.value, true) := by
        rw [h, ← e]
        show some (kindOf r.2.1, tx r.1, tx r.2.2, matB (askM r)) = _
        rw [hb]
        rfl
      exact foghornref12_Asked.calls _ _ _ _ _ _ W h'
    · exact absurd ((if_neg hb).symm.trans hq) (by simp)
theorem rroute_any (A B : Option Addr) (c d : Nat) (x : Rte) (n : Int) (W : World) (h1 : Kd.C (Kd.int .i64) W A x.chain.length x.chain) (hc : x.chain.length ≤ c) (h2 : Kd.C k32 W B x.asked.length (x.asked.map ofMat)) (hd : x.asked.length ≤ d) (hl : x.chain.length ≤ 1000000) (hm : matsOkB (x.asked.map ofMat) = true) :
    Calls Tryz.prog 70 #[.agg #[.slice A x.chain.length c, .slice B x.asked.length d], .int .i64 n] W fun e w' => e = .returned (.bool (rteB x n)) ∧ Below W.heap.size W w' := by
  have e : (x.asked.map ofMat).length = x.asked.length := List.length_map _
  have em : (x.asked.map ofMat).map toMat = x.asked := by
    rw [List.map_map]
    conv => rhs; rw [← List.map_id x.asked]
    exact List.map_congr_left fun _ _ => rfl
  have := foghornref13_route.calls ((x.chain.length + 1) * (x.chain.length + 3) + 1) A c x.chain B d (x.asked.map ofMat) n (rteB x n) W h1 hc (by rw [e]; exact h2) (by rw [e]; exact hd) (by
    rw [rroute_f (by omega) hm (Nat.lt_succ_self _), em])
  rw [e] at this
  exact this
theorem isIf_toList (x : ByteArray) : isIf x = (x.toList == [105, 102]) := by
  unfold isIf
  rw [ByteArray.toList_eq]
  rfl
end Go.Proofs.YtjfknmlchdifjaaGreatDoor
namespace Go.Proofs.YtjfknmlchdifjaaGreatDoorQ.P
open Go.RowKit Go.Proofs.YtjfknmlchdifjaaGreatDoorW.PrintWords Go.Proofs.YtjfknmlchdifjaaGreatDoorW.PrintLast Go.Proofs.YtjfknmlchdifjaaGreatDoorW.PrintMore Go.Proofs.YtjfknmlchdifjaaGreatDoor
theorem matsOkB_of {l : List Mat} (h : ∀ x ∈ l, x.name.size ≤ 1000000 ∧ x.value.size ≤ 1000000) : matsOkB (l.map ofMat) = true := by
  unfold matsOkB
  rw [List.all_eq_true]
  intro y hy
  obtain ⟨x, hx, rfl⟩ := List.mem_map.1 hy
  exact matOkB_of (h x hx).1 (h x hx).2
end Go.Proofs.YtjfknmlchdifjaaGreatDoorQ.P
namespace Go.Proofs.YtjfknmlchdifjaaGreatDoor
open Go.RowKit Go.Proofs.YtjfknmlchdifjaaGreatDoorQ Go.Proofs.YtjfknmlchdifjaaGreatDoorQ.P Go.Proofs.YtjfknmlchdifjaaGreatDoorW.PrintWords Go.Proofs.YtjfknmlchdifjaaGreatDoorW.PrintLast Go.Proofs.YtjfknmlchdifjaaGreatDoorW.PrintMore
attribute [local go_sem high] ext_size ext_cell ext_frozen alloc_cell alloc_frozen
attribute [local go_sem] lt_more lt_suc drew_size drew_cell
structure CfB (H0 H1 : Nat) (A TA : Option Addr) (n cap m tcap : Nat) (r b : Int) (w : World) : Prop where
  b0 : w.heap[H0]? = some (.cells #[.slice A n cap, .slice TA m tcap, .int .i64 r, .int .i64 b] 57 (0, 0))
  b1 : w.heap[H1]? = some (.cells #[.slice none 0 0, .slice none 0 0, .int .i64 0, .int .i64 0] 57 (0, 0))
theorem CfB.stay {H0 H1 : Nat} {A TA : Option Addr} {n cap m tcap : Nat} {r b : Int} {w W : World} (h : CfB H0 H1 A TA n cap m tcap r b w) (hb : Below w.heap.size w W) : CfB H0 H1 A TA n cap m tcap r b W := ⟨blk_call hb h.b0, blk_call hb h.b1⟩
theorem CfB.cells {H0 H1 : Nat} {A TA : Option Addr} {n cap m tcap : Nat} {r b : Int} {w : World} (h : CfB H0 H1 A TA n cap m tcap r b w) :
    (w.cell? ⟨H0, 0, none⟩ = some (.slice A n cap) ∧ w.cell? ⟨H0, 1, none⟩ = some (.slice TA m tcap) ∧ w.cell? ⟨H0, 2, none⟩ = some (.int .i64 r) ∧ w.cell? ⟨H0, 3, none⟩ = some (.int .i64 b)) ∧
    (w.cell? ⟨H1, 0, none⟩ = some (.slice none 0 0) ∧ w.cell? ⟨H1, 1, none⟩ = some (.slice none 0 0) ∧ w.cell? ⟨H1, 2, none⟩ = some (.int .i64 0) ∧ w.cell? ⟨H1, 3, none⟩ = some (.int .i64 0)) ∧
    (w.frozen? ⟨H1, 0, none⟩ = false ∧ w.frozen? ⟨H1, 1, none⟩ = false ∧ w.frozen? ⟨H1, 2, none⟩ = false ∧ w.frozen? ⟨H1, 3, none⟩ = false) ∧ H0 < w.heap.size ∧ H1 < w.heap.size ∧ w.frozen? ⟨H0, 1, none⟩ = false :=
  ⟨⟨blk_cell h.b0 rfl, blk_cell h.b0 rfl, blk_cell h.b0 rfl, blk_cell h.b0 rfl⟩, ⟨blk_cell h.b1 rfl, blk_cell h.b1 rfl, blk_cell h.b1 rfl, blk_cell h.b1 rfl⟩, ⟨blk_free h.b1 0, blk_free h.b1 1, blk_free h.b1 2, blk_free h.b1 3⟩, blk_lt h.b0, blk_lt h.b1, blk_free h.b0 1⟩
theorem put4 {W : World} {H1 : Nat} (hb : W.heap[H1]? = some (.cells #[.slice none 0 0, .slice none 0 0, .int .i64 0, .int .i64 0] 57 (0, 0))) (v1 v2 v3 v4 : Value) :
    ((((W.setCell ⟨H1, 0, none⟩ v1).setCell ⟨H1, 1, none⟩ v2).setCell ⟨H1, 2, none⟩ v3).setCell ⟨H1, 3, none⟩ v4).heap[H1]? = some (.cells #[v1, v2, v3, v4] 57 (0, 0)) :=
  blk_put (blk_put (blk_put (blk_put hb 0 v1 rfl) 1 v2 rfl) 2 v3 rfl) 3 v4 rfl
theorem CfA.put4 {W : World} {g H1 : Nat} {rv tv : Value} {c : Cfg} (h : CfA W g rv tv c) (hb : W.heap[H1]? = some (.cells #[.slice none 0 0, .slice none 0 0, .int .i64 0, .int .i64 0] 57 (0, 0))) (v1 v2 v3 v4 : Value) :
    CfA ((((W.setCell ⟨H1, 0, none⟩ v1).setCell ⟨H1, 1, none⟩ v2).setCell ⟨H1, 2, none⟩ v3).setCell ⟨H1, 3, none⟩ v4) g rv tv c :=
  (((h.set2 hb 0 _).set2 (blk_put hb 0 _ rfl) 1 _).set2 (blk_put (blk_put hb 0 _ rfl) 1 _ rfl) 2 _).set2 (blk_put (blk_put (blk_put hb 0 _ rfl) 1 _ rfl) 2 _ rfl) 3 _
theorem below4 {w W : World} {g H1 : Nat} (h : Below g w W) (hg : g ≤ H1) (v1 v2 v3 v4 : Value) : Below g w ((((W.setCell ⟨H1, 0, none⟩ v1).setCell ⟨H1, 1, none⟩ v2).setCell ⟨H1, 2, none⟩ v3).setCell ⟨H1, 3, none⟩ v4) :=
  bset (bset (bset (bset h hg _) hg _) hg _) hg _
def L0 (W2 : World) (ws : List ByteArray) (q : Nat) (wr : World) : Prop := wr = W2 ∧ 1 ≤ q ∧ q ≤ ws.length ∧ ∀ j (hj : j < ws.length), 1 ≤ j → j < q → isIf ws[j] = false
set_option maxHeartbeats 8000000 in
set_option maxRecDepth 100000 in
theorem raddT_any (g : Nat) (rv tv : Value) (c : Cfg) (ws : List ByteArray) (A0 : Option Addr) (c0 : Nat) (w : World) (h : CfA w g rv tv c) (hg : g ≤ w.heap.size) (hC : Kd.C Kd.string w A0 ws.length ws) (hc : ws.length ≤ c0) (hw : ∀ x ∈ ws, x.size ≤ 100000) (hn : 1 ≤ ws.length ∧ ws.length ≤ 200000) :
    Calls Tryz.prog 103 #[.agg #[rv, tv, .int .i64 c.rep, .int .i64 c.beat], .slice A0 ws.length c0] w fun e w' => ∃ tv', e = .returned (.tuple #[.agg #[rv, tv', .int .i64 c.rep, .int .i64 c.beat], .int .i64 (rteS c.rs c.ts ws).2]) ∧ Below g w w' ∧ KeptT w w' ∧
      CfA w' g rv tv' { c with ts := (rteS c.rs c.ts ws).1 } := by
  have HH := Lib.hid h
  obtain ⟨A, cap, rfl, hcap, hRC⟩ := Kd.R_reads h.rs
  obtain ⟨TA, tcap, rfl⟩ : ∃ TA tcap, tv = .slice TA c.ts.length tcap := by
    obtain ⟨a, b, e⟩ := Kd.S_slice h.ts
    rw [List.length_map] at e
    exact ⟨a, b, e⟩
  have HS := Lib.hid (strs_k hC hc)
  have hm0 := HS.out.le
  unfold maxLen at hm0
  rw [List.length_map] at hcap hRC HH ⊢
  have hrl := h.rl
  have HRC := Lib.hid hRC
  obtain ⟨res, hres⟩ : ∃ res, res = rteS c.rs c.ts ws := ⟨_, rfl⟩
  rw [← hres]
  have HRE := Lib.hid hres
  have HCX := Lib.hid hC
  clear hRC hres h hC
  by_cases h4 : c.ts.length = 4
  · have HR4 := Lib.hid (show res = (c.ts, 2) from HRE.out.trans (by unfold rteS; rw [if_pos h4]))
    have h4' : (c.ts.length : Int) = 4 := by omega
    clear h4 HRE hc
    go_enter Tryz.func103, Tryz.ntmps103
    go_wp2_with fail
    refine bodyPost_ret (results_ct rfl _ _ (w.heap.size + 1) 57 #[.slice A c.rs.length cap, .slice TA c.ts.length tcap, .int .i64 c.rep, .int .i64 c.beat] (0, 0) _ rfl (blk_new2 _ _ _) Tryz.underlying57 rfl (by kernel_rfl)) rfl ?_
    rw [HR4.out]
    exact ⟨_, rfl, bel_low hg (by repeat (first | exact Below.refl _ _ | apply bal | apply bext | apply bdr | apply bdrN | (refine bst ?_ _ (by simp only [ext_size, size_alloc, size_set]; omega)))), KeptT.bel (by repeat (first | exact Below.refl _ _ | apply bal | apply bext | apply bdr | apply bdrN | (refine bst ?_ _ (by simp only [ext_size, size_alloc, size_set]; omega)))), HH.out.stay (by repeat (first | exact Below.refl _ _ | apply bal | apply bext | apply bdr | apply bdrN | (refine bst ?_ _ (by simp only [ext_size, size_alloc, size_set]; omega))))⟩
  have HNO := Lib.hid fun hh => HRE.out.trans (rteS_no (rs := c.rs) (ws := ws) h4 hh)
  have HIF := Lib.hid fun q hq h1 hi hh => HRE.out.trans (rteS_if (rs := c.rs) (ws := ws) (q := q) h4 hq h1 hi hh)
  have h4' : ((c.ts.length : Int) == 4) = false := by simp; omega
  have hn1 := hn.1
  have hn2 := hn.2
  clear h4 HRE hn
  obtain ⟨w2, hw2⟩ : ∃ w2, w2 = ((w.alloc (.cells #[Value.slice A c.rs.length cap, Value.slice TA c.ts.length tcap, Value.int IntKind.i64 c.rep, Value.int IntKind.i64 c.beat] 57)).alloc (.cells #[Value.slice none 0 0, Value.slice none 0 0, Value.int IntKind.i64 0, Value.int IntKind.i64 0] 57)) := ⟨_, rfl⟩
  have BF := Lib.hid (show CfB w.heap.size (w.heap.size + 1) A TA c.rs.length cap c.ts.length tcap c.rep c.beat w2 from by rw [hw2]; exact ⟨blk_new1 _ _ _, blk_new2 _ _ _⟩)
  have BW := Lib.hid (show Below w.heap.size w w2 from by rw [hw2]; exact (by repeat (first | exact Below.refl _ _ | apply bal | apply bext | apply bdr | apply bdrN | (refine bst ?_ _ (by simp only [ext_size, size_alloc, size_set]; omega)))))
  have HW2 := Lib.hid hw2
  have HC2 := Lib.hid (HH.out.stay BW.out)
  have HS2 := Lib.hid (HS.out.stay BW.out)
  clear hw2
  go_enter Tryz.func103, Tryz.ntmps103
  go_wp2_with fail
  rw [← HW2.out]
  clear HW2
  go_loopw [6] (fun i wr => ∃ q : Nat, i = .int .i64 q ∧ L0 w2 ws q wr) (fun i _ => ws.length - (intOf i).toNat)
  case atStart => exact ⟨1, rfl, rfl, Nat.le_refl _, hn1, fun j hj h1 h2 => absurd h2 (by omega)⟩
  case round =>
    obtain ⟨q, rfl, hwr, h1, hql, hno⟩ := hrel
    subst hwr
    have HNB := Lib.hid hno
    clear hno
    by_cases hlt : q < ws.length
    · obtain ⟨b, o, hA0, hbl, hcell⟩ := HS2.out.at (by omega)
      subst hA0
      obtain ⟨x, hx⟩ : ∃ x, x = ws[q] := ⟨_, rfl⟩
      have ck : wr.cell? ⟨b, o + q, none⟩ = some (.string x) := by
        rw [hx]
        exact hcell q _ (strs_get ws q hlt)
      by_cases hif : isIf x = true
      · have HR1 := Lib.hid (HIF.out q hlt h1 (by rw [← hx]; exact hif) HNB.out)
        rw [isIf_toList] at hif
        have hif2 : (x.toList != [105, 102]) = false := by rw [bne, hif]; rfl
        clear HIF HNO HNB hx
        have hge : decide (ws.length ≤ q) = false := decide_eq_false (by omega)
        obtain ⟨ys, hys⟩ : ∃ ys, ys = (ws.drop 1).take (q - 1) := ⟨_, rfl⟩
        obtain ⟨zs, hzs⟩ : ∃ zs, zs = ws.drop (q + 1) := ⟨_, rfl⟩
        rw [← hys, ← hzs] at HR1
        have hyl : ys.length = q - 1 := by rw [hys, List.length_take, List.length_drop]; omega
        have hzl : zs.length = ws.length - (q + 1) := by rw [hzs, List.length_drop]
        have HYC := Lib.hid (show ∀ k (hk : k < ys.length), wr.cell? ⟨b, o + 1 + k, none⟩ = some (.string ys[k]) from fun k hk => by
          have hy : ys[k] = ws[1 + k]'(by omega) := by simp only [hys, List.getElem_take, List.getElem_drop]
          rw [hy, Nat.add_assoc]
          exact hcell (1 + k) _ (strs_get ws (1 + k) (by omega)))
        have HYW := Lib.hid (show ∀ x ∈ ys, x.size ≤ 100000 from fun x hx => hw x (List.mem_of_mem_drop (i := 1) (List.mem_of_mem_take (hys ▸ hx))))
        have HZW := Lib.hid (show ∀ x ∈ zs, x.size ≤ 100000 from fun x hx => hw x (List.mem_of_mem_drop (hzs ▸ hx)))
        obtain ⟨Az, hrz, hCz, hcz⟩ := drop_wordsC HCX.out hc ((q : Int) + 1) (by omega) (by omega)
        rw [show ((q : Int) + 1).toNat = q + 1 by omega, ← hzs] at hrz hCz hcz
        have HSZ := Lib.hid (strs_k (Kd.C_below hCz BW.out) hcz)
        have HYL := Lib.hid hyl
        have hzn : zs.length ≤ 200000 := by omega
        have HP := Lib.hid fun x W (hs : Kd.C k90 W A c.rs.length (c.rs.map ofRcv)) => rplace_any A cap c.rs x W hs hcap (by omega)
        have HRC2 := Lib.hid (Kd.C_below HRC.out BW.out)
        obtain ⟨⟨q0, q1, q2, q3⟩, ⟨d0, d1, d2, d3⟩, ⟨g0, g1, g2, g3⟩, hl0, hl1, fr1⟩ := BF.out.cells
        clear hcell hys hzs hyl hzl hCz hcz q0 q1 q2 q3 d0 d1 d2 d3 g0 g1 g2 g3 fr1
        go_wp2_with fail
        have HB0 := Lib.hid ((Below.refl wr.heap.size wr).alloc (Nat.le_refl _) (.cells #[Value.slice none 0 0, Value.slice none 0 0] 93))
        have HB1 := Lib.hid (blk_new wr (.cells #[Value.slice none 0 0, Value.slice none 0 0] 93))
        go_loopw [43] (fun i W => ∃ k : Nat, k ≤ q - 1 ∧ i = .int .i64 k ∧ L1 wr wr.heap.size c.rs ys k W) (fun i _ => (q - 1) - (intOf i).toNat)
        case atStart => exact ⟨0, Nat.zero_le _, rfl, .slice none 0 0, [], rfl, HB0.out, HB1.out, Kd.R_nil _ _ _ _ _⟩
        case round =>
          clear HB0 HB1
          rename World => wk
          obtain ⟨k, hk, rfl, v, chain, hpl, hbel, hblk, hR⟩ := hrel
          obtain ⟨Av, cv0, rfl⟩ := Kd.R_slice hR
          have hHl := blk_lt hblk
          have HB2 := Lib.hid hbel
          have HBK := Lib.hid hblk
          have HCH := Lib.hid hR
          have HPL := Lib.hid hpl
          have HCL := Lib.hid (show chain.length = k from by
            have := placesP_len hpl
            rw [List.length_take, HYL.out] at this
            omega)
          have BFk := Lib.hid (BF.out.stay hbel)
          obtain ⟨⟨q0, q1, q2, q3⟩, ⟨d0, d1, d2, d3⟩, ⟨g0, g1, g2, g3⟩, hk0, hk1, fr1⟩ := BFk.out.cells
          clear hpl hbel hblk hR
          by_cases hlt2 : k < q - 1
          · as_aux_lemma =>
            obtain ⟨x', hx'⟩ : ∃ x', x' = ys[k]'(by rw [HYL.out]; exact hlt2) := ⟨_, rfl⟩
            have ck2 : wk.cell? ⟨b, o + 1 + k, none⟩ = some (.string x') := by
              rw [hx']
              exact (HB2.out.cell (p := ⟨b, o + 1 + k, none⟩) hbl).trans (HYC.out k (by rw [HYL.out]; exact hlt2))
            have HT := Lib.hid (show ys.take (k + 1) = ys.take k ++ [x'] from by rw [hx']; exact List.take_succ_eq_append_getElem _)
            have HC := Lib.hid (show ys = ys.take k ++ x' :: ys.drop (k + 1) from by rw [hx']; exact cut_at _)
            have HP' := Lib.hid fun W hs => HP.out x' W hs
            have HRCk := Lib.hid (Kd.C_below HRC2.out HB2.out)
            clear hx' HP
            by_cases hneg : placeL c.rs x' < 0
            · have hnone : placesP c.rs ys = none := by
                have := placesP_fail (l := ys.take k) (r := ys.drop (k + 1)) hneg
                rw [← HC.out] at this
                exact this
              have HR0 := Lib.hid (show res = (c.ts, 4) from by rw [HR1.out, hnone]; rfl)
              clear hnone HT HC
              generalize placeL c.rs x' = pl at *
              go_wp2_with fail
              refine (HP'.out _ HRCk.out).mono ?_
              rintro e W6 ⟨rfl, hb⟩
              have B6 := Lib.hid (bel HB2.out hb)
              have BF6 := Lib.hid (BFk.out.stay hb)
              clear q0 q1 q2 q3 d0 d1 d2 d3 g0 g1 g2 g3 fr1 hb
              obtain ⟨⟨q0, q1, q2, q3⟩, ⟨d0, d1, d2, d3⟩, ⟨g0, g1, g2, g3⟩, _, _, fr1⟩ := BF6.out.cells
              go_wp2_with fail
              refine bodyPost_ret (results_ct rfl _ _ (w.heap.size + 1) 57 #[.slice A c.rs.length cap, .slice TA c.ts.length tcap, .int .i64 c.rep, .int .i64 c.beat] (0, 0) _ rfl (put4 BF6.out.b1 _ _ _ _) Tryz.underlying57 rfl (by kernel_rfl)) rfl ?_
              rw [HR0.out]
              exact ⟨_, rfl, below4 (bel_low hg (bel BW.out B6.out)) (by omega) _ _ _ _, (KeptT.bel (bel BW.out B6.out)).put4 (Nat.le_succ _) _ _ _ _, (HC2.out.stay B6.out).put4 BF6.out.b1 _ _ _ _⟩
            · have hsn := placesP_snoc HPL.out (show 0 ≤ placeL c.rs x' by omega)
              rw [← HT.out] at hsn
              have HSN := Lib.hid hsn
              clear hsn HT HC
              generalize placeL c.rs x' = pl at *
              have hne : some wr.heap.size ≠ (Value.slice Av chain.length cv0).ownBlock := Kd.R_ne HCH.out HBK.out (by decide)
              have cv : wk.cell? ⟨wr.heap.size, 0, none⟩ = some (.slice Av chain.length cv0) := blk_cell HBK.out rfl
              go_wp2_with fail
              refine (HP'.out _ HRCk.out).mono ?_
              rintro e w' ⟨rfl, hb⟩
              obtain ⟨z, rfl⟩ := ext_of hb
              clear hb
              go_wp2_with (first | ((with_reducible refine gate_builtin (b := .append) (xs := #[.tmp 55, .tmp 57]) rfl ?_); refine Hid.out ?_))
              refine Lib.hid ?_
              refine Kd.R_append (Kd.int .i64) (w0 := wr) wr.heap.size rfl (.tmp 55) (.tmp 57) 91 3 (.int .i64 0) 8 rfl Tryz.underlying91 infoInt rfl (by decide) (by omega) (.slice Av chain.length cv0) chain pl [.int .i64 pl] (fun _ => True) (fun _ => False) rfl (congrArg (fun s => Value.slice (some ⟨s, 0, none⟩) 1 1) (ext_size z).symm) ?aP (fun _ hk => hk.elim) (fun _ _ => trivial) ?aO ?aB ?aS ?aL ?_
              case aP => exact rfl
              case aO => exact Kd.R_below HCH.out (ext_bel _ _)
              case aB => exact HB2.out.trans (bel_to (Nat.le_of_lt hHl) (ext_bel _ _))
              case aS => rw [ext_size]; omega
              case aL => rw [HCL.out]; omega
              intro v1 w6 ho hb6 hg6 hat
              obtain ⟨A6, c6, rfl⟩ := Kd.R_slice ho
              have hl1 : (chain ++ [pl]).length = k + 1 := by rw [List.length_append, HCL.out]; rfl
              rw [hl1] at ho hat ⊢
              have hb6b := blk_grown (blk_call (ext_bel wk z) HBK.out) hg6 hne
              have p6 : w6.cell? ⟨wr.heap.size, 0, none⟩ = some (.slice Av chain.length cv0) := blk_cell hb6b rfl
              have f6 : w6.frozen? ⟨wr.heap.size, 0, none⟩ = false := blk_free hb6b 0
              clear q0 q1 q2 q3 d0 d1 d2 d3 g0 g1 g2 g3 fr1
              go_wp2_with fail
              refine ⟨⟨k + 1, by omega, by go_num, .slice A6 (k + 1) c6, chain ++ [pl], HSN.out, hb6.trans (set_low _ _ _ _), blk_set hb6b 0 _, Kd.R_set ho hb6b (by decide) 0 _⟩, by simp [intOf]; omega⟩
          · obtain rfl : k = q - 1 := by omega
            have hall : placesP c.rs ys = some chain := by
              have := HPL.out
              rwa [List.take_of_length_le (by rw [HYL.out]; exact Nat.le_refl _)] at this
            have HRE2 := Lib.hid (show res = rteA c.rs c.ts chain (asksP zs) from by rw [HR1.out, hall]; rfl)
            have HCI := Lib.hid (placesP_in hall)
            clear HR1 hall HPL HP HYW HYL HYC hlt2 q0 q1 q2 q3 d0 d1 d2 d3 g0 g1 g2 g3 fr1
            go_wp2_with fail
            go_loopw [66] (fun i W => ∃ j : Nat, j ≤ zs.length ∧ i = .int .i64 j ∧ L2 wr wr.heap.size zs chain j W) (fun i _ => zs.length - (intOf i).toNat)
            case atStart => exact ⟨0, Nat.zero_le _, rfl, .slice Av chain.length cv0, .slice none 0 0, [], rfl, HB2.out, HBK.out, HCH.out, Kd.R_nil _ _ _ _ _⟩
            case round =>
              rename World => wj
              obtain ⟨j, hj, rfl, v1, v2, asks, hak, hbel2, hblk2, hR1, hR2⟩ := hrel
              have HR1' := Lib.hid hR1
              have HR2' := Lib.hid hR2
              obtain ⟨B1, d1, rfl⟩ := Kd.R_slice hR1
              obtain ⟨B2, d2, rfl⟩ := Kd.R_slice hR2
              rw [List.length_map] at HR2' hblk2
              have hHl2 := blk_lt hblk2
              have HW2 := Lib.hid hbel2
              have HWK := Lib.hid hblk2
              have HAK := Lib.hid hak
              have HAL := Lib.hid (show asks.length = j from by
                have := asksP_len hak
                rw [List.length_take] at this
                omega)
              have BFj := Lib.hid (BF.out.stay hbel2)
              clear hak hbel2 hblk2 hR1 hR2
              by_cases hlt3 : j < zs.length
              · as_aux_lemma =>
                obtain ⟨b3, o3, hAz, hbl3, hcell3⟩ := (HSZ.out.stay HW2.out).at (by omega)
                subst hAz
                obtain ⟨x', hx'⟩ : ∃ x', x' = zs[j] := ⟨_, rfl⟩
                have ck3 : wj.cell? ⟨b3, o3 + j, none⟩ = some (.string x') := by
                  rw [hx']
                  exact hcell3 j _ (strs_get zs j hlt3)
                have hxs := HZW.out zs[j] (List.getElem_mem _)
                rw [← hx'] at hxs
                have HT := Lib.hid (show zs.take (j + 1) = zs.take j ++ [x'] from by rw [hx']; exact List.take_succ_eq_append_getElem _)
                have HC := Lib.hid (show zs = zs.take j ++ x' :: zs.drop (j + 1) from by rw [hx']; exact cut_at _)
                clear hx' hcell3
                cases hq : askP x'.data.toList with
                | none =>
                  have hnone : asksP zs = none := by
                    have := asksP_fail (l := zs.take j) (r := zs.drop (j + 1)) hq
                    rw [← HC.out] at this
                    exact this
                  have HR0 := Lib.hid (show res = (c.ts, 13) from by rw [HRE2.out, hnone]; rfl)
                  have HA := Lib.hid fun W => rasked_no x' W hxs hq
                  clear hnone HT HC hq hxs
                  go_wp2_with fail
                  refine (HA.out _).mono ?_
                  rintro e W6 ⟨mk, mn, mv, rfl, hb⟩
                  have B6 := Lib.hid (bel HW2.out hb)
                  have BF6 := Lib.hid (BFj.out.stay hb)
                  clear hb
                  obtain ⟨⟨q0, q1, q2, q3⟩, ⟨d0, d1, d2, d3⟩, ⟨g0, g1, g2, g3⟩, _, _, fr1⟩ := BF6.out.cells
                  go_wp2_with fail
                  have B7 := blk_alloc (.cells #[.int .i64 mk, .string mn, .string mv] 32) (put4 (W := W6) BF6.out.b1 (.slice A c.rs.length cap) (.slice TA c.ts.length tcap) (.int .i64 c.rep) (.int .i64 c.beat))
                  refine bodyPost_ret (results_ct rfl _ _ (w.heap.size + 1) 57 #[.slice A c.rs.length cap, .slice TA c.ts.length tcap, .int .i64 c.rep, .int .i64 c.beat] (0, 0) _ rfl B7 Tryz.underlying57 rfl (by kernel_rfl)) rfl ?_
                  rw [HR0.out]
                  have C7 := (HC2.out.stay B6.out).put4 BF6.out.b1 (.slice A c.rs.length cap) (.slice TA c.ts.length tcap) (.int .i64 c.rep) (.int .i64 c.beat)
                  exact ⟨_, rfl, (below4 (bel_low hg (bel BW.out B6.out)) (by omega) _ _ _ _).alloc (by simp only [size_set]; omega) _, ((KeptT.bel (bel BW.out B6.out)).put4 (Nat.le_succ _) _ _ _ _).trans (KeptT.bel (bal (Below.refl _ _) _)), C7.stay (bal (Below.refl _ _) _)⟩
                | some m =>
                  obtain ⟨mk, mn, mv⟩ := m
                  have hsn := asksP_snoc HAK.out hq
                  rw [← HT.out] at hsn
                  have HSN := Lib.hid hsn
                  have HA := Lib.hid fun W => rasked_yes x' ⟨mk, mn, mv⟩ W hxs hq
                  clear hsn HT HC hq hxs
                  have hne : some wr.heap.size ≠ (Value.slice B2 asks.length d2).ownBlock := Kd.R_ne HR2'.out HWK.out (by decide)
                  have cv2 : wj.cell? ⟨wr.heap.size, 1, none⟩ = some (.slice B2 asks.length d2) := blk_cell HWK.out rfl
                  go_wp2_with fail
                  refine (HA.out _).mono ?_
                  rintro e w' ⟨rfl, hb⟩
                  obtain ⟨z, rfl⟩ := ext_of hb
                  clear hb
                  go_wp2_with (first | ((with_reducible refine gate_builtin (b := .append) (xs := #[.tmp 79, .tmp 81]) rfl ?_); refine Hid.out ?_))
                  refine Lib.hid ?_
                  refine Kd.R_append k32 (w0 := wr) wr.heap.size rfl (.tmp 79) (.tmp 81) 23 32 (.agg #[(.int .i64 0), (.string ⟨#[]⟩), (.string ⟨#[]⟩)]) 40 rfl Tryz.underlying23 infoMat rfl (by decide) (by omega) (.slice B2 asks.length d2) (asks.map ofMat) (ofMat ⟨mk, mn, mv⟩) [.int .i64 mk, .string mn, .string mv] (fun _ => True) (fun _ => False) rfl ?aX ?aP (fun _ hk => hk.elim) (fun _ _ => trivial) ?aO ?aB ?aS ?aL ?_
                  case aX => exact congrArg (fun s => Value.slice (some ⟨s, 0, none⟩) 1 1) (show wj.heap.size + more z + 1 = _ from by rw [size_alloc, ext_size])
                  case aP => exact k32_mkM _ _ _ (ofMat ⟨mk, mn, mv⟩)
                  case aO => exact Kd.R_below HR2'.out (by repeat (first | exact Below.refl _ _ | apply bal | apply bext | apply bdr | apply bdrN | (refine bst ?_ _ (by simp only [ext_size, size_alloc, size_set]; omega))))
                  case aB => exact HW2.out.trans (bel_to (Nat.le_of_lt hHl2) (by repeat (first | exact Below.refl _ _ | apply bal | apply bext | apply bdr | apply bdrN | (refine bst ?_ _ (by simp only [ext_size, size_alloc, size_set]; omega)))))
                  case aS => simp only [ext_size, size_alloc, size_set]; omega
                  case aL => rw [List.length_map, HAL.out]; omega
                  intro v6 w6 ho hb6 hg6 hat
                  obtain ⟨A6, c6, rfl⟩ := Kd.R_slice ho
                  have hl1 : (asks.map ofMat ++ [ofMat ⟨mk, mn, mv⟩]).length = j + 1 := by rw [List.length_append, List.length_map, HAL.out]; rfl
                  rw [hl1] at ho hat ⊢
                  have hb6b := blk_grown (blk_call (by exact (by repeat (first | exact Below.refl _ _ | apply bal | apply bext | apply bdr | apply bdrN | (refine bst ?_ _ (by simp only [ext_size, size_alloc, size_set]; omega))))) HWK.out) hg6 hne
                  have p6 : w6.cell? ⟨wr.heap.size, 1, none⟩ = some (.slice B2 asks.length d2) := blk_cell hb6b rfl
                  have f6 : w6.frozen? ⟨wr.heap.size, 1, none⟩ = false := blk_free hb6b 1
                  have hch6 := Kd.R_over' (Kd.R_below HR1'.out (by exact (by repeat (first | exact Below.refl _ _ | apply bal | apply bext | apply bdr | apply bdrN | (refine bst ?_ _ (by simp only [ext_size, size_alloc, size_set]; omega)))))) (Kd.R_typed (Kd.R_below HR2'.out (by exact (by repeat (first | exact Below.refl _ _ | apply bal | apply bext | apply bdr | apply bdrN | (refine bst ?_ _ (by simp only [ext_size, size_alloc, size_set]; omega))))))) (by decide) hg6
                  go_wp2_with fail
                  refine ⟨⟨j + 1, by omega, by go_num, .slice B1 chain.length d1, .slice A6 (j + 1) c6, asks ++ [⟨mk, mn, mv⟩], HSN.out, hb6.trans (set_low _ _ _ _), blk_set hb6b 1 _, Kd.R_set hch6 hb6b (by decide) 1 _, ?_⟩, by simp [intOf]; omega⟩
                  rw [List.map_append]
                  exact Kd.R_set ho hb6b (by decide) 1 _
              · as_aux_lemma =>
                obtain rfl : j = zs.length := by omega
                have hall2 : asksP zs = some asks := by
                  have := HAK.out
                  rwa [List.take_length] at this
                have HRE3 := Lib.hid (show res = if rteB ⟨chain, asks⟩ c.rs.length = true then (c.ts ++ [⟨chain, asks⟩], 0) else (c.ts, 3) from by rw [HRE2.out, hall2]; rfl)
                have hmo : matsOkB ((asks.map ofMat)) = true := matsOkB_of fun m hm => by
                  obtain ⟨_, _, h1, h2⟩ := matB_parts (asksP_ok hall2 m hm)
                  have g1 := (nameB_all h1).2.2
                  have g2 := (valB_all h2).2
                  omega
                obtain ⟨B1', d1', e1, hd1, G1⟩ := Kd.R_reads HR1'.out
                injection e1 with e1 e3 e2
                subst e1 e2
                clear e3
                obtain ⟨B2', d2', e1, hd2, G2⟩ := Kd.R_reads HR2'.out
                injection e1 with e1 e3 e2
                subst e1 e2
                clear e3
                rw [List.length_map] at hd2 G2
                have GG1 := Lib.hid G1
                have GG2 := Lib.hid G2
                have HIR := Lib.hid fun W (g1 : Kd.C (Kd.int .i64) W B1 chain.length chain) (g2 : Kd.C k32 W B2 asks.length (asks.map ofMat)) => rroute_any B1 B2 d1 d2 ⟨chain, asks⟩ (c.rs.length : Int) W g1 hd1 g2 hd2 (by show chain.length ≤ 1000000; rw [HCL.out]; omega) hmo
                have cH0 : wj.cell? ⟨wr.heap.size, 0, none⟩ = some (.slice B1 chain.length d1) := blk_cell HWK.out rfl
                have cH1 : wj.cell? ⟨wr.heap.size, 1, none⟩ = some (.slice B2 asks.length d2) := blk_cell HWK.out rfl
                obtain ⟨⟨q0, q1, q2, q3⟩, ⟨d0, d1', d2', d3⟩, ⟨g0, g1, g2, g3⟩, hj0, hj1, fr1⟩ := BFj.out.cells
                clear hall2 hlt3 HCI hmo G1 G2 d0 d1' d2' d3 g0 g1 g2 g3 fr1
                generalize rteB ⟨chain, asks⟩ (c.rs.length : Int) = rb at HRE3 HIR
                cases rb
                · go_wp2_with fail
                  refine (HIR.out _ (Kd.C_below GG1.out (by repeat (first | exact Below.refl _ _ | apply bal | apply bext | apply bdr | apply bdrN | (refine bst ?_ _ (by simp only [ext_size, size_alloc, size_set]; omega))))) (Kd.C_below GG2.out (by repeat (first | exact Below.refl _ _ | apply bal | apply bext | apply bdr | apply bdrN | (refine bst ?_ _ (by simp only [ext_size, size_alloc, size_set]; omega)))))).mono ?_
                  rintro e W6 ⟨rfl, hb⟩
                  have B6 := Lib.hid (bel HW2.out hb)
                  have BF6 := Lib.hid (BFj.out.stay hb)
                  have HR0 := Lib.hid (show res = (c.ts, 3) from HRE3.out.trans (if_neg (by decide)))
                  clear hb q0 q1 q2 q3 hj0 hj1 cH0 cH1 HRE3
                  obtain ⟨⟨q0, q1, q2, q3⟩, ⟨d0, d1', d2', d3⟩, ⟨g0, g1, g2, g3⟩, hj0, hj1, fr1⟩ := BF6.out.cells
                  go_wp2_with fail
                  refine bodyPost_ret (results_ct rfl _ _ (w.heap.size + 1) 57 #[.slice A c.rs.length cap, .slice TA c.ts.length tcap, .int .i64 c.rep, .int .i64 c.beat] (0, 0) _ rfl (put4 BF6.out.b1 _ _ _ _) Tryz.underlying57 rfl (by kernel_rfl)) rfl ?_
                  rw [HR0.out]
                  exact ⟨_, rfl, below4 (bel_low hg (bel BW.out B6.out)) (by omega) _ _ _ _, (KeptT.bel (bel BW.out B6.out)).put4 (Nat.le_succ _) _ _ _ _, (HC2.out.stay B6.out).put4 BF6.out.b1 _ _ _ _⟩
                · go_wp2_with fail
                  refine (HIR.out _ (Kd.C_below GG1.out (by repeat (first | exact Below.refl _ _ | apply bal | apply bext | apply bdr | apply bdrN | (refine bst ?_ _ (by simp only [ext_size, size_alloc, size_set]; omega))))) (Kd.C_below GG2.out (by repeat (first | exact Below.refl _ _ | apply bal | apply bext | apply bdr | apply bdrN | (refine bst ?_ _ (by simp only [ext_size, size_alloc, size_set]; omega)))))).mono ?_
                  rintro e W6 ⟨rfl, hb⟩
                  have B6 := Lib.hid (bel HW2.out hb)
                  have BF6 := Lib.hid (BFj.out.stay hb)
                  have HR0 := Lib.hid (show res = (c.ts ++ [⟨chain, asks⟩], 0) from HRE3.out.trans (if_pos trivial))
                  have BK6 := Lib.hid (blk_call hb HWK.out)
                  have C1 := Lib.hid (Kd.R_below HR1'.out hb)
                  have C2 := Lib.hid (Kd.R_below HR2'.out hb)
                  have R6 := Lib.hid (HC2.out.stay B6.out)
                  have TS := Lib.hid (Kd.S_old HC2.out.ts B6.out)
                  have HTL := Lib.hid (Kd.S_lt HC2.out.ts)
                  have h66 := blk_lt BK6.out
                  have e0 : W6.cell? ⟨wr.heap.size, 0, none⟩ = some (.slice B1 chain.length d1) := blk_cell BK6.out rfl
                  have e1 : W6.cell? ⟨wr.heap.size, 1, none⟩ = some (.slice B2 asks.length d2) := blk_cell BK6.out rfl
                  have hgr : g ≤ wr.heap.size := Nat.le_trans hg BW.out.size
                  clear hb q0 q1 q2 q3 hj0 hj1 cH0 cH1 HRE3
                  obtain ⟨⟨q0, q1, q2, q3⟩, ⟨d0, d1', d2', d3⟩, ⟨g0, g1, g2, g3⟩, hj0, hj1, fr1⟩ := BF6.out.cells
                  go_wp2_with (first | ((with_reducible refine gate_builtin (b := .append) (xs := #[.tmp 93, .tmp 95]) rfl ?_); refine Hid.out ?_))
                  refine Lib.hid ?_
                  refine Kd.S_append k93 (w0 := w) g rfl (.tmp 93) (.tmp 95) 55 93 (.agg #[.slice none 0 0, .slice none 0 0]) 48 rfl Tryz.underlying55 infoRte rfl (by decide) (by omega) (.slice TA c.ts.length tcap) (c.ts.map ofRte) (ofRte ⟨chain, asks⟩) [.slice B1 chain.length d1, .slice B2 asks.length d2] (fun _ => True) (fun k => wr.heap.size ≤ k) rfl rfl ?aP ?aK (fun _ _ => trivial) ?aO (bel_low hg (bel BW.out B6.out)) (Nat.le_trans hgr (Nat.le_of_lt h66)) ?aL ?_
                  case aP => exact k93_mkM _ _ _ (ofRte ⟨chain, asks⟩) (Kd.R_lower (Kd.R_mono (Kd.R_bound C1.out) (fun _ hk => hk.2.1)) hgr) (Kd.R_lower (Kd.R_mono (Kd.R_bound C2.out) (fun _ hk => hk.2.1)) hgr)
                  case aK =>
                    intro k' hk'
                    refine ⟨trivial, fun e => ?_⟩
                    have := HTL.out k' e.symm
                    omega
                  case aO => exact Kd.S_mono TS.out (fun k' hk' => ⟨trivial, by have := hk'.2; omega⟩)
                  case aL =>
                    have := R6.out.tl
                    rw [List.length_map]
                    omega
                  intro v1 w6 ho hb6' hg6 hat
                  obtain ⟨A6, c6, rfl⟩ := Kd.S_slice ho
                  have hl1 : (c.ts.map ofRte ++ [ofRte ⟨chain, asks⟩]).length = c.ts.length + 1 := by rw [List.length_append, List.length_map]; rfl
                  rw [hl1] at ho hat ⊢
                  clear hl1
                  have hneA : ∀ (b : Nat) (cs : Array Value), W6.heap[b]? = some (.cells cs 57 (0, 0)) → some b ≠ (Value.slice TA c.ts.length tcap).ownBlock := fun b cs hb => Kd.S_ne R6.out.ts hb (by decide)
                  have BF7 := Lib.hid (show CfB w.heap.size (w.heap.size + 1) A TA c.rs.length cap c.ts.length tcap c.rep c.beat w6 from ⟨blk_grown BF6.out.b0 hg6 (hneA _ _ BF6.out.b0), blk_grown BF6.out.b1 hg6 (hneA _ _ BF6.out.b1)⟩)
                  have HRS := Lib.hid (Kd.R_over' R6.out.rs (Kd.S_typed R6.out.ts) (by decide) hg6)
                  have KT6 := Lib.hid ((KeptT.bel (bel BW.out B6.out)).trans (KeptT.grow hg6 (Kd.S_typed R6.out.ts) (.inr rfl)))
                  have HO6 := Lib.hid ho
                  have HL6 := Lib.hid hb6'
                  clear ho hb6' hg6 hat hneA q0 q1 q2 q3 d0 d1' d2' d3 g0 g1 g2 g3 hj0 hj1 fr1 e0 e1
                  obtain ⟨⟨q0, q1, q2, q3⟩, ⟨d0, d1', d2', d3⟩, ⟨g0, g1, g2, g3⟩, hj0, hj1, fr1⟩ := BF7.out.cells
                  go_wp2_with fail
                  have X0 := blk_put BF7.out.b0 1 (.slice A6 (c.ts.length + 1) c6) rfl
                  have X1 := blk_set_far BF7.out.b1 (a := ⟨w.heap.size, 1, none⟩) (by simp) (.slice A6 (c.ts.length + 1) c6)
                  refine bodyPost_ret (results_ct rfl _ _ (w.heap.size + 1) 57 #[.slice A c.rs.length cap, .slice A6 (c.ts.length + 1) c6, .int .i64 c.rep, .int .i64 c.beat] (0, 0) _ rfl (put4 X1 _ _ _ _) Tryz.underlying57 rfl (by kernel_rfl)) rfl ?_
                  rw [HR0.out]
                  have hC6 : CfA w6 g (.slice A c.rs.length cap) (.slice A6 (c.ts.length + 1) c6) { c with ts := c.ts ++ [⟨chain, asks⟩] } := ⟨HRS.out, by rw [List.map_append]; exact HO6.out, R6.out.rl, by
                    have := R6.out.tl
                    have h4n : c.ts.length ≠ 4 := fun e => by rw [e] at h4'; exact absurd h4' (by decide)
                    show (c.ts ++ [_]).length ≤ 4
                    rw [List.length_append, List.length_singleton]
                    omega⟩
                  exact ⟨_, rfl, below4 (bset HL6.out hg _) (by omega) _ _ _ _, (KT6.out.set (Nat.le_refl _) _).put4 (Nat.le_succ _) _ _ _ _, (hC6.set2 BF7.out.b0 1 _).put4 X1 _ _ _ _⟩
      · clear hcell
        have hif' : isIf x = false := by simpa using hif
        have HNB' := Lib.hid (show ∀ j (hj : j < ws.length), 1 ≤ j → j < q + 1 → isIf ws[j] = false from fun j hj h1 h2 => by
          rcases Nat.lt_succ_iff_lt_or_eq.1 h2 with h | rfl
          · exact HNB.out j hj h1 h
          · rw [← hx]; exact hif')
        rw [isIf_toList] at hif'
        have hif2 : (x.toList != [105, 102]) = true := by rw [bne, hif']; rfl
        clear HIF HNO HNB hx hif
        go_wp2_with fail
        exact ⟨⟨q + 1, by go_num, rfl, by omega, by omega, HNB'.out⟩, by simp [intOf]; omega⟩
    · obtain rfl : q = ws.length := by omega
      have HR0 := Lib.hid (HNO.out fun j hj h1 => HNB.out j hj h1 hj)
      obtain ⟨⟨q0, q1, q2, q3⟩, ⟨d0, d1, d2, d3⟩, ⟨g0, g1, g2, g3⟩, hl0, hl1, fr1⟩ := BF.out.cells
      clear HIF HNO HNB hlt
      go_wp2_with fail
      refine bodyPost_ret (results_ct rfl _ _ (w.heap.size + 1) 57 #[.slice A c.rs.length cap, .slice TA c.ts.length tcap, .int .i64 c.rep, .int .i64 c.beat] (0, 0) _ rfl (put4 BF.out.b1 _ _ _ _) Tryz.underlying57 rfl (by kernel_rfl)) rfl ?_
      rw [HR0.out]
      exact ⟨_, rfl, below4 (bel_low hg BW.out) (by omega) _ _ _ _, (KeptT.bel BW.out).put4 (Nat.le_succ _) _ _ _ _, HC2.out.put4 BF.out.b1 _ _ _ _⟩
end Go.Proofs.YtjfknmlchdifjaaGreatDoor
namespace Go.Proofs.YtjfknmlchdifjaaGreatDoor
open Go.RowKit Go.Proofs.YtjfknmlchdifjaaGreatDoorQ Go.Proofs.YtjfknmlchdifjaaGreatDoorQ.P Go.Proofs.YtjfknmlchdifjaaGreatDoorW.PrintWords Go.Proofs.YtjfknmlchdifjaaGreatDoorW.PrintLast Go.Proofs.YtjfknmlchdifjaaGreatDoorW.PrintMore
attribute [local go_sem high] ext_size ext_cell ext_frozen alloc_cell alloc_frozen
attribute [local go_sem] lt_more lt_suc drew_size drew_cell
def AhI (a : List UInt8) (n : Int) : Prop := (a = [] ∧ n = 0) ∨ (a = rcvT ∧ n = 1) ∨ (a = rteT ∧ n = 2) ∨ (a = repT ∧ n = 3) ∨ (a = beatT ∧ n = 4)
theorem mayR {a : List UInt8} {n : Int} (h : AhI a n) : mayB rcvT a = decide (n ≤ 1) := by
  rcases h with ⟨rfl, rfl⟩ | ⟨rfl, rfl⟩ | ⟨rfl, rfl⟩ | ⟨rfl, rfl⟩ | ⟨rfl, rfl⟩ <;> decide
theorem mayT {a : List UInt8} {n : Int} (h : AhI a n) : mayB rteT a = (decide (n = 1) || decide (n = 2)) := by
  rcases h with ⟨rfl, rfl⟩ | ⟨rfl, rfl⟩ | ⟨rfl, rfl⟩ | ⟨rfl, rfl⟩ | ⟨rfl, rfl⟩ <;> decide
theorem mayP {a : List UInt8} {n : Int} (h : AhI a n) : mayB repT a = decide (n = 2) := by
  rcases h with ⟨rfl, rfl⟩ | ⟨rfl, rfl⟩ | ⟨rfl, rfl⟩ | ⟨rfl, rfl⟩ | ⟨rfl, rfl⟩ <;> decide
theorem mayBt {a : List UInt8} {n : Int} (h : AhI a n) : mayB beatT a = decide (n = 3) := by
  rcases h with ⟨rfl, rfl⟩ | ⟨rfl, rfl⟩ | ⟨rfl, rfl⟩ | ⟨rfl, rfl⟩ | ⟨rfl, rfl⟩ <;> decide
theorem mayO {f a : List UInt8} (h1 : f ≠ rcvT) (h2 : f ≠ rteT) (h3 : f ≠ repT) (h4 : f ≠ beatT) : mayB f a = false := by
  unfold mayB
  rw [if_neg h1, if_neg h2, if_neg h3, if_neg h4]
theorem lineS_no {c : Cfg} {a : List UInt8} {ws : List ByteArray} {f : List UInt8} (hf : (ws.getD 0 ⟨#[]⟩).data.toList = f) (h : mayB f a = false) : lineS c a ws = (c, a, 10) := by
  unfold lineS
  rw [hf, if_pos h]
theorem lineS_rcv {c : Cfg} {a : List UInt8} {ws : List ByteArray} (hf : (ws.getD 0 ⟨#[]⟩).data.toList = rcvT) (h : mayB rcvT a = true) : lineS c a ws = ({ c with rs := (rcvS c.rs ws).1 }, rcvT, (rcvS c.rs ws).2) := by
  unfold lineS
  rw [hf, if_neg (by rw [h]; decide), if_pos rfl]
theorem lineS_rte {c : Cfg} {a : List UInt8} {ws : List ByteArray} (hf : (ws.getD 0 ⟨#[]⟩).data.toList = rteT) (h : mayB rteT a = true) : lineS c a ws = ({ c with ts := (rteS c.rs c.ts ws).1 }, rteT, (rteS c.rs c.ts ws).2) := by
  unfold lineS
  rw [hf, if_neg (by rw [h]; decide), if_neg (by decide), if_pos rfl]
theorem lineS_rep {c : Cfg} {a : List UInt8} {ws : List ByteArray} (hf : (ws.getD 0 ⟨#[]⟩).data.toList = repT) (h : mayB repT a = true) : lineS c a ws = ({ c with rep := (timeS c.rep ws).1 }, repT, (timeS c.rep ws).2) := by
  unfold lineS
  rw [hf, if_neg (by rw [h]; decide), if_neg (by decide), if_neg (by decide), if_pos rfl]
theorem lineS_bt {c : Cfg} {a : List UInt8} {ws : List ByteArray} (hf : (ws.getD 0 ⟨#[]⟩).data.toList = beatT) (h : mayB beatT a = true) : lineS c a ws = ({ c with beat := (timeS c.beat ws).1 }, beatT, (timeS c.beat ws).2) := by
  unfold lineS
  rw [hf, if_neg (by rw [h]; decide), if_neg (by decide), if_neg (by decide), if_neg (by decide)]
theorem timeS_oneR (old : Int) (ws : List ByteArray) : (timeS old ws).2 = (oneR ws).2 ∧ ((oneR ws).2 = 0 → (timeS old ws).1 = (oneR ws).1) := by
  unfold oneR timeS
  generalize (ws.getD 1 ⟨#[]⟩).data.toList = l
  by_cases h2 : ws.length ≠ 2
  · simp [h2]
  · by_cases hb : atoiB l = false
    · simp [h2, hb]
    · by_cases ho : oftenB (atoiV l) = true
      · simp [h2, hb, ho]
      · simp [h2, hb, ho]
theorem rone_any (A : Option Addr) (cap : Nat) (ws : List ByteArray) (W : World) (h : Kd.C Kd.string W A ws.length ws) (hc : ws.length ≤ cap) (hs : ∀ x ∈ ws, x.size ≤ 100000) :
    Calls Tryz.prog 104 #[.slice A ws.length cap] W fun e w' => e = .returned (.tuple #[.int .i64 (oneR ws).1, .int .i64 (oneR ws).2]) ∧ Below W.heap.size W w' :=
  foghornref13_one.calls 100031 A cap ws _ _ W h hc (one_f hs (by omega))
def AddP (g : Nat) (w : World) (y : Cfg × List UInt8 × Int) (e : Ending) (w' : World) : Prop :=
  ∃ (A1 A2 : Option Addr) (n1 c1 n2 c2 : Nat) (p q n : Int), e = .returned (.tuple #[.agg #[.slice A1 n1 c1, .slice A2 n2 c2, .int .i64 p, .int .i64 q], .int .i64 n, .int .i64 y.2.2]) ∧ Below g w w' ∧ KeptT w w' ∧
    (y.2.2 = 0 → CfA w' g (.slice A1 n1 c1) (.slice A2 n2 c2) y.1 ∧ p = y.1.rep ∧ q = y.1.beat ∧ AhI y.2.1 n)
theorem neq_of {x : ByteArray} {l : List UInt8} (h : x.data.toList ≠ l) : (x.toList == l) = false := by
  rw [ByteArray.toList_eq]
  exact beq_eq_false_iff_ne.2 h
theorem eq_of {x : ByteArray} {l : List UInt8} (h : x.data.toList = l) : (x.toList == l) = true := by
  rw [ByteArray.toList_eq]
  exact beq_iff_eq.2 h
set_option maxHeartbeats 8000000 in
set_option maxRecDepth 100000 in
theorem radd_any (g : Nat) (rv tv : Value) (c : Cfg) (a : List UInt8) (n : Int) (s : ByteArray) (w : World) (h : CfA w g rv tv c) (hg : g ≤ w.heap.size) (ha : AhI a n) (hs : s.size ≤ 100000) :
    Calls Tryz.prog 57 #[.agg #[rv, tv, .int .i64 c.rep, .int .i64 c.beat], .int .i64 n, .string s] w (AddP g w (lineS c a (wordsT 32 s))) := by
  have HH := Lib.hid h
  obtain ⟨A, cap, rfl⟩ : ∃ A cap, rv = .slice A c.rs.length cap := by
    obtain ⟨a, b, e⟩ := Kd.R_slice h.rs
    rw [List.length_map] at e
    exact ⟨a, b, e⟩
  obtain ⟨TA, tcap, rfl⟩ : ∃ TA tcap, tv = .slice TA c.ts.length tcap := by
    obtain ⟨a, b, e⟩ := Kd.S_slice h.ts
    rw [List.length_map] at e
    exact ⟨a, b, e⟩
  obtain ⟨ws, hws⟩ : ∃ ws, ws = wordsT 32 s := ⟨_, rfl⟩
  have HWD := Lib.hid fun W => (show Calls Tryz.prog 37 #[.string s] W fun e w' => ∃ v0_ : Value, e = .returned v0_ ∧ Kd.R Kd.string 9 w' W.heap.size (fun _ => True) v0_ ws ∧ Below W.heap.size W w' from foghornref12_Words.calls (s.size + 1) s ws W (by rw [hws]; exact words_f hs (Nat.lt_succ_self _)))
  have hwi := words_in hs
  have hl1 : 1 ≤ ws.length := by
    rw [hws]
    unfold wordsT
    rw [List.length_map]
    exact List.length_pos_iff.2 (splitL_ne 32 _)
  rw [← hws] at hwi ⊢
  have HWI := Lib.hid hwi
  have hl2 := hwi.2
  obtain ⟨y, hy⟩ : ∃ y, y = lineS c a ws := ⟨_, rfl⟩
  rw [← hy]
  have HY := Lib.hid hy
  obtain ⟨f, hf⟩ : ∃ f, f = ws[0]'hl1 := ⟨_, rfl⟩
  have hfd : (ws.getD 0 ⟨#[]⟩) = f := by rw [hf, List.getD_eq_getElem?_getD, List.getElem?_eq_getElem (by omega)]; rfl
  have HF := Lib.hid hf
  have HFD := Lib.hid hfd
  have HA := Lib.hid ha
  clear hf hfd hy hwi h ha hws
  obtain ⟨w2, hw2⟩ : ∃ w2, w2 = ((w.alloc (.cells #[Value.slice A c.rs.length cap, Value.slice TA c.ts.length tcap, Value.int IntKind.i64 c.rep, Value.int IntKind.i64 c.beat] 57)).alloc (.cells #[Value.slice none 0 0, Value.slice none 0 0, Value.int IntKind.i64 0, Value.int IntKind.i64 0] 57)) := ⟨_, rfl⟩
  have BF := Lib.hid (show CfB w.heap.size (w.heap.size + 1) A TA c.rs.length cap c.ts.length tcap c.rep c.beat w2 from by rw [hw2]; exact ⟨blk_new1 _ _ _, blk_new2 _ _ _⟩)
  have BW := Lib.hid (show Below w.heap.size w w2 from by rw [hw2]; exact (by repeat (first | exact Below.refl _ _ | apply bal | apply bext | apply bdr | apply bdrN | (refine bst ?_ _ (by simp only [ext_size, size_alloc, size_set]; omega)))))
  have HW2 := Lib.hid hw2
  have HC2 := Lib.hid (HH.out.stay BW.out)
  clear hw2
  by_cases hR : f.data.toList = rcvT
  · have hf := hR
    clear hR
    by_cases hn : n ≤ 1
    · as_aux_lemma =>
      have HYR := Lib.hid (HY.out.trans (lineS_rcv (by rw [HFD.out]; exact hf) (by rw [mayR HA.out]; exact decide_eq_true hn)))
      have eR : (f.toList == [114, 101, 99, 101, 105, 118, 101, 114]) = true := eq_of (l := rcvT) hf
      have eT : (f.toList == [114, 111, 117, 116, 101]) = false := neq_of (l := rteT) (by rw [hf]; decide)
      have eP : (f.toList == [114, 101, 112, 101, 97, 116]) = false := neq_of (l := repT) (by rw [hf]; decide)
      have eB : (f.toList == [98, 101, 97, 116]) = false := neq_of (l := beatT) (by rw [hf]; decide)
      clear HY HFD hf
      go_enter Tryz.func57, Tryz.ntmps57
      go_wp2_with fail
      rw [← HW2.out]
      refine (HWD.out _).mono ?_
      rintro e w1 ⟨v0, rfl, hR, hb⟩
      obtain ⟨A0, c0, rfl, hc0, hC⟩ := Kd.R_reads hR
      have B1 := Lib.hid (bel BW.out hb)
      have BF1 := Lib.hid (BF.out.stay hb)
      have HC1 := Lib.hid (HC2.out.stay hb)
      have HCW := Lib.hid hC
      have HCC := Lib.hid hc0
      obtain ⟨b, o, hA0, hbl, hcell⟩ := (strs_k hC hc0).at (by omega)
      subst hA0
      have k0 : w1.cell? ⟨b, o, none⟩ = some (.string f) := by
        have := hcell 0 _ (strs_get ws 0 (by omega))
        rw [← HF.out, Nat.add_zero] at this
        exact this
      obtain ⟨⟨q0, q1, q2, q3⟩, ⟨d0, d1, d2, d3⟩, ⟨g0, g1, g2, g3⟩, hl0, hl1', fr1⟩ := BF1.out.cells
      have fr2 : w1.frozen? ⟨w.heap.size, 2, none⟩ = false := blk_free BF1.out.b0 2
      have fr3 : w1.frozen? ⟨w.heap.size, 3, none⟩ = false := blk_free BF1.out.b0 3
      clear hR hC hb hcell hc0
      go_wp2_with fail
      refine (raddR_any g _ _ c ws _ _ w1 HC1.out (Nat.le_trans hg B1.out.size) HCW.out HCC.out HWI.out.1 (by omega)).mono ?_
      rintro e W2 ⟨v', rfl, hb2, hk2, hC2⟩
      obtain ⟨A', n', c', rfl⟩ : ∃ A' n' c', v' = .slice A' n' c' := by
        obtain ⟨A', c', e⟩ := Kd.R_slice hC2.rs
        exact ⟨A', _, c', e⟩
      have BL2 := Lib.hid ((bel_low hg B1.out).trans hb2)
      have KT2 := Lib.hid ((KeptT.bel B1.out).trans hk2)
      have BF2 := Lib.hid (show CfB w.heap.size (w.heap.size + 1) A TA c.rs.length cap c.ts.length tcap c.rep c.beat W2 from ⟨hk2 _ _ _ _ BF1.out.b0 (by decide) (by decide), hk2 _ _ _ _ BF1.out.b1 (by decide) (by decide)⟩)
      have CC2 := Lib.hid hC2
      clear q0 q1 q2 q3 d0 d1 d2 d3 g0 g1 g2 g3 hl0 hl1' fr1 fr2 fr3 k0 hb2 hk2 hC2
      obtain ⟨⟨q0, q1, q2, q3⟩, ⟨d0, d1, d2, d3⟩, ⟨g0, g1, g2, g3⟩, hl0, hl1', fr1⟩ := BF2.out.cells
      generalize (rcvS c.rs ws).2 = code at *
      go_wp2_with fail
      have B7 := blk_alloc (.cells #[.slice A' n' c', .slice TA c.ts.length tcap, .int .i64 c.rep, .int .i64 c.beat] 57) (put4 (W := W2) BF2.out.b1 (.slice A' n' c') (.slice TA c.ts.length tcap) (.int .i64 c.rep) (.int .i64 c.beat))
      refine bodyPost_ret (results_ctt rfl _ _ (w.heap.size + 1) 57 #[.slice A' n' c', .slice TA c.ts.length tcap, .int .i64 c.rep, .int .i64 c.beat] (0, 0) _ rfl B7 Tryz.underlying57 rfl (by kernel_rfl)) rfl ?_
      rw [HYR.out]
      exact ⟨_, _, _, _, _, _, _, _, _, rfl, (below4 BL2.out (by omega) _ _ _ _).alloc (by simp only [size_set]; omega) _, (KT2.out.put4 (Nat.le_succ _) _ _ _ _).trans (KeptT.bel (bal (Below.refl _ _) _)), fun _ => ⟨(CC2.out.put4 BF2.out.b1 _ _ _ _).stay (bal (Below.refl _ _) _), rfl, rfl, .inr (.inl ⟨rfl, rfl⟩)⟩⟩
    · as_aux_lemma =>
      have HYR := Lib.hid (HY.out.trans (lineS_no rfl (by rw [HFD.out, hf, mayR HA.out, decide_eq_false hn])))
      have eR : (f.toList == [114, 101, 99, 101, 105, 118, 101, 114]) = true := eq_of (l := rcvT) hf
      have eT : (f.toList == [114, 111, 117, 116, 101]) = false := neq_of (l := rteT) (by rw [hf]; decide)
      have eP : (f.toList == [114, 101, 112, 101, 97, 116]) = false := neq_of (l := repT) (by rw [hf]; decide)
      have eB : (f.toList == [98, 101, 97, 116]) = false := neq_of (l := beatT) (by rw [hf]; decide)
      have hn' : ¬ n ≤ 1 := hn
      clear HY HFD hf
      go_enter Tryz.func57, Tryz.ntmps57
      go_wp2_with fail
      rw [← HW2.out]
      refine (HWD.out _).mono ?_
      rintro e w1 ⟨v0, rfl, hR, hb⟩
      obtain ⟨A0, c0, rfl, hc0, hC⟩ := Kd.R_reads hR
      have B1 := Lib.hid (bel BW.out hb)
      have BF1 := Lib.hid (BF.out.stay hb)
      have HC1 := Lib.hid (HC2.out.stay hb)
      have HCW := Lib.hid hC
      have HCC := Lib.hid hc0
      obtain ⟨b, o, hA0, hbl, hcell⟩ := (strs_k hC hc0).at (by omega)
      subst hA0
      have k0 : w1.cell? ⟨b, o, none⟩ = some (.string f) := by
        have := hcell 0 _ (strs_get ws 0 (by omega))
        rw [← HF.out, Nat.add_zero] at this
        exact this
      obtain ⟨⟨q0, q1, q2, q3⟩, ⟨d0, d1, d2, d3⟩, ⟨g0, g1, g2, g3⟩, hl0, hl1', fr1⟩ := BF1.out.cells
      have fr2 : w1.frozen? ⟨w.heap.size, 2, none⟩ = false := blk_free BF1.out.b0 2
      have fr3 : w1.frozen? ⟨w.heap.size, 3, none⟩ = false := blk_free BF1.out.b0 3
      clear hR hC hb hcell hc0
      have H1 := Lib.hid fun W hW => rone_any (some ⟨b, o, none⟩) c0 ws W hW HCC.out HWI.out.1
      generalize oneR ws = on at *
      obtain ⟨on1, on2⟩ := on
      go_wp2_with fail
      refine (H1.out _ HCW.out).mono ?_
      rintro e W2 ⟨rfl, hb2⟩
      have k2 : W2.cell? ⟨b, o, none⟩ = some (.string f) := (hb2.cell (p := ⟨b, o, none⟩) hbl).trans k0
      have B2 := Lib.hid (bel B1.out hb2)
      have BF2 := Lib.hid (BF1.out.stay hb2)
      have CC2 := Lib.hid (HC1.out.stay hb2)
      clear q0 q1 q2 q3 d0 d1 d2 d3 g0 g1 g2 g3 hl0 hl1' fr1 fr2 fr3 k0 hb2
      obtain ⟨⟨q0, q1, q2, q3⟩, ⟨d0, d1, d2, d3⟩, ⟨g0, g1, g2, g3⟩, hl0, hl1', fr1⟩ := BF2.out.cells
      have fr2 : W2.frozen? ⟨w.heap.size, 2, none⟩ = false := blk_free BF2.out.b0 2
      have fr3 : W2.frozen? ⟨w.heap.size, 3, none⟩ = false := blk_free BF2.out.b0 3
      go_wp2_with fail
      refine bodyPost_ret (results_ctt rfl _ _ (w.heap.size + 1) 57 #[.slice A c.rs.length cap, .slice TA c.ts.length tcap, .int .i64 c.rep, .int .i64 c.beat] (0, 0) _ rfl (put4 (W := W2) BF2.out.b1 (.slice A c.rs.length cap) (.slice TA c.ts.length tcap) (.int .i64 c.rep) (.int .i64 c.beat)) Tryz.underlying57 rfl (by kernel_rfl)) rfl ?_
      rw [HYR.out]
      exact ⟨_, _, _, _, _, _, _, _, _, rfl, below4 (bel_low hg B2.out) (by omega) _ _ _ _, (KeptT.bel B2.out).put4 (Nat.le_succ _) _ _ _ _, fun h => absurd h (by show ¬ (10 : Int) = 0; decide)⟩
  by_cases hT : f.data.toList = rteT
  · have hf := hT
    clear hT
    by_cases hn : n = 1
    · as_aux_lemma =>
      obtain rfl : n = 1 := hn
      have HYR := Lib.hid (HY.out.trans (lineS_rte (by rw [HFD.out]; exact hf) (by rw [mayT HA.out]; rfl)))
      have eR : (f.toList == [114, 101, 99, 101, 105, 118, 101, 114]) = false := neq_of (l := rcvT) (by rw [hf]; decide)
      have eT : (f.toList == [114, 111, 117, 116, 101]) = true := eq_of (l := rteT) hf
      have eP : (f.toList == [114, 101, 112, 101, 97, 116]) = false := neq_of (l := repT) (by rw [hf]; decide)
      have eB : (f.toList == [98, 101, 97, 116]) = false := neq_of (l := beatT) (by rw [hf]; decide)
      clear HY HFD hf
      go_enter Tryz.func57, Tryz.ntmps57
      go_wp2_with fail
      rw [← HW2.out]
      refine (HWD.out _).mono ?_
      rintro e w1 ⟨v0, rfl, hR, hb⟩
      obtain ⟨A0, c0, rfl, hc0, hC⟩ := Kd.R_reads hR
      have B1 := Lib.hid (bel BW.out hb)
      have BF1 := Lib.hid (BF.out.stay hb)
      have HC1 := Lib.hid (HC2.out.stay hb)
      have HCW := Lib.hid hC
      have HCC := Lib.hid hc0
      obtain ⟨b, o, hA0, hbl, hcell⟩ := (strs_k hC hc0).at (by omega)
      subst hA0
      have k0 : w1.cell? ⟨b, o, none⟩ = some (.string f) := by
        have := hcell 0 _ (strs_get ws 0 (by omega))
        rw [← HF.out, Nat.add_zero] at this
        exact this
      obtain ⟨⟨q0, q1, q2, q3⟩, ⟨d0, d1, d2, d3⟩, ⟨g0, g1, g2, g3⟩, hl0, hl1', fr1⟩ := BF1.out.cells
      have fr2 : w1.frozen? ⟨w.heap.size, 2, none⟩ = false := blk_free BF1.out.b0 2
      have fr3 : w1.frozen? ⟨w.heap.size, 3, none⟩ = false := blk_free BF1.out.b0 3
      clear hR hC hb hcell hc0
      go_wp2_with fail
      refine (raddT_any g _ _ c ws _ _ w1 HC1.out (Nat.le_trans hg B1.out.size) HCW.out HCC.out HWI.out.1 ⟨hl1, by omega⟩).mono ?_
      rintro e W2 ⟨v', rfl, hb2, hk2, hC2⟩
      obtain ⟨A', n', c', rfl⟩ : ∃ A' n' c', v' = .slice A' n' c' := by
        obtain ⟨A', c', e⟩ := Kd.S_slice hC2.ts
        exact ⟨A', _, c', e⟩
      have BL2 := Lib.hid ((bel_low hg B1.out).trans hb2)
      have KT2 := Lib.hid ((KeptT.bel B1.out).trans hk2)
      have BF2 := Lib.hid (show CfB w.heap.size (w.heap.size + 1) A TA c.rs.length cap c.ts.length tcap c.rep c.beat W2 from ⟨hk2 _ _ _ _ BF1.out.b0 (by decide) (by decide), hk2 _ _ _ _ BF1.out.b1 (by decide) (by decide)⟩)
      have CC2 := Lib.hid hC2
      clear q0 q1 q2 q3 d0 d1 d2 d3 g0 g1 g2 g3 hl0 hl1' fr1 fr2 fr3 k0 hb2 hk2 hC2
      obtain ⟨⟨q0, q1, q2, q3⟩, ⟨d0, d1, d2, d3⟩, ⟨g0, g1, g2, g3⟩, hl0, hl1', fr1⟩ := BF2.out.cells
      generalize (rteS c.rs c.ts ws).2 = code at *
      go_wp2_with fail
      have B7 := blk_alloc (.cells #[.slice A c.rs.length cap, .slice A' n' c', .int .i64 c.rep, .int .i64 c.beat] 57) (put4 (W := W2) BF2.out.b1 (.slice A c.rs.length cap) (.slice A' n' c') (.int .i64 c.rep) (.int .i64 c.beat))
      refine bodyPost_ret (results_ctt rfl _ _ (w.heap.size + 1) 57 #[.slice A c.rs.length cap, .slice A' n' c', .int .i64 c.rep, .int .i64 c.beat] (0, 0) _ rfl B7 Tryz.underlying57 rfl (by kernel_rfl)) rfl ?_
      rw [HYR.out]
      exact ⟨_, _, _, _, _, _, _, _, _, rfl, (below4 BL2.out (by omega) _ _ _ _).alloc (by simp only [size_set]; omega) _, (KT2.out.put4 (Nat.le_succ _) _ _ _ _).trans (KeptT.bel (bal (Below.refl _ _) _)), fun _ => ⟨(CC2.out.put4 BF2.out.b1 _ _ _ _).stay (bal (Below.refl _ _) _), rfl, rfl, .inr (.inr (.inl ⟨rfl, rfl⟩))⟩⟩
    by_cases hn2 : n = 2
    · as_aux_lemma =>
      obtain rfl : n = 2 := hn2
      have HYR := Lib.hid (HY.out.trans (lineS_rte (by rw [HFD.out]; exact hf) (by rw [mayT HA.out]; rfl)))
      have eR : (f.toList == [114, 101, 99, 101, 105, 118, 101, 114]) = false := neq_of (l := rcvT) (by rw [hf]; decide)
      have eT : (f.toList == [114, 111, 117, 116, 101]) = true := eq_of (l := rteT) hf
      have eP : (f.toList == [114, 101, 112, 101, 97, 116]) = false := neq_of (l := repT) (by rw [hf]; decide)
      have eB : (f.toList == [98, 101, 97, 116]) = false := neq_of (l := beatT) (by rw [hf]; decide)
      clear HY HFD hf
      go_enter Tryz.func57, Tryz.ntmps57
      go_wp2_with fail
      rw [← HW2.out]
      refine (HWD.out _).mono ?_
      rintro e w1 ⟨v0, rfl, hR, hb⟩
      obtain ⟨A0, c0, rfl, hc0, hC⟩ := Kd.R_reads hR
      have B1 := Lib.hid (bel BW.out hb)
      have BF1 := Lib.hid (BF.out.stay hb)
      have HC1 := Lib.hid (HC2.out.stay hb)
      have HCW := Lib.hid hC
      have HCC := Lib.hid hc0
      obtain ⟨b, o, hA0, hbl, hcell⟩ := (strs_k hC hc0).at (by omega)
      subst hA0
      have k0 : w1.cell? ⟨b, o, none⟩ = some (.string f) := by
        have := hcell 0 _ (strs_get ws 0 (by omega))
        rw [← HF.out, Nat.add_zero] at this
        exact this
      obtain ⟨⟨q0, q1, q2, q3⟩, ⟨d0, d1, d2, d3⟩, ⟨g0, g1, g2, g3⟩, hl0, hl1', fr1⟩ := BF1.out.cells
      have fr2 : w1.frozen? ⟨w.heap.size, 2, none⟩ = false := blk_free BF1.out.b0 2
      have fr3 : w1.frozen? ⟨w.heap.size, 3, none⟩ = false := blk_free BF1.out.b0 3
      clear hR hC hb hcell hc0
      go_wp2_with fail
      refine (raddT_any g _ _ c ws _ _ w1 HC1.out (Nat.le_trans hg B1.out.size) HCW.out HCC.out HWI.out.1 ⟨hl1, by omega⟩).mono ?_
      rintro e W2 ⟨v', rfl, hb2, hk2, hC2⟩
      obtain ⟨A', n', c', rfl⟩ : ∃ A' n' c', v' = .slice A' n' c' := by
        obtain ⟨A', c', e⟩ := Kd.S_slice hC2.ts
        exact ⟨A', _, c', e⟩
      have BL2 := Lib.hid ((bel_low hg B1.out).trans hb2)
      have KT2 := Lib.hid ((KeptT.bel B1.out).trans hk2)
      have BF2 := Lib.hid (show CfB w.heap.size (w.heap.size + 1) A TA c.rs.length cap c.ts.length tcap c.rep c.beat W2 from ⟨hk2 _ _ _ _ BF1.out.b0 (by decide) (by decide), hk2 _ _ _ _ BF1.out.b1 (by decide) (by decide)⟩)
      have CC2 := Lib.hid hC2
      clear q0 q1 q2 q3 d0 d1 d2 d3 g0 g1 g2 g3 hl0 hl1' fr1 fr2 fr3 k0 hb2 hk2 hC2
      obtain ⟨⟨q0, q1, q2, q3⟩, ⟨d0, d1, d2, d3⟩, ⟨g0, g1, g2, g3⟩, hl0, hl1', fr1⟩ := BF2.out.cells
      generalize (rteS c.rs c.ts ws).2 = code at *
      go_wp2_with fail
      have B7 := blk_alloc (.cells #[.slice A c.rs.length cap, .slice A' n' c', .int .i64 c.rep, .int .i64 c.beat] 57) (put4 (W := W2) BF2.out.b1 (.slice A c.rs.length cap) (.slice A' n' c') (.int .i64 c.rep) (.int .i64 c.beat))
      refine bodyPost_ret (results_ctt rfl _ _ (w.heap.size + 1) 57 #[.slice A c.rs.length cap, .slice A' n' c', .int .i64 c.rep, .int .i64 c.beat] (0, 0) _ rfl B7 Tryz.underlying57 rfl (by kernel_rfl)) rfl ?_
      rw [HYR.out]
      exact ⟨_, _, _, _, _, _, _, _, _, rfl, (below4 BL2.out (by omega) _ _ _ _).alloc (by simp only [size_set]; omega) _, (KT2.out.put4 (Nat.le_succ _) _ _ _ _).trans (KeptT.bel (bal (Below.refl _ _) _)), fun _ => ⟨(CC2.out.put4 BF2.out.b1 _ _ _ _).stay (bal (Below.refl _ _) _), rfl, rfl, .inr (.inr (.inl ⟨rfl, rfl⟩))⟩⟩
    · as_aux_lemma =>
      have HYR := Lib.hid (HY.out.trans (lineS_no rfl (by rw [HFD.out, hf, mayT HA.out, decide_eq_false hn, decide_eq_false hn2]; rfl)))
      have eR : (f.toList == [114, 101, 99, 101, 105, 118, 101, 114]) = false := neq_of (l := rcvT) (by rw [hf]; decide)
      have eT : (f.toList == [114, 111, 117, 116, 101]) = true := eq_of (l := rteT) hf
      have eP : (f.toList == [114, 101, 112, 101, 97, 116]) = false := neq_of (l := repT) (by rw [hf]; decide)
      have eB : (f.toList == [98, 101, 97, 116]) = false := neq_of (l := beatT) (by rw [hf]; decide)
      have hq1 : (n == 1) = false := by simpa using hn
      have hq2 : (n == 2) = false := by simpa using hn2
      clear hn hn2
      clear HY HFD hf
      go_enter Tryz.func57, Tryz.ntmps57
      go_wp2_with fail
      rw [← HW2.out]
      refine (HWD.out _).mono ?_
      rintro e w1 ⟨v0, rfl, hR, hb⟩
      obtain ⟨A0, c0, rfl, hc0, hC⟩ := Kd.R_reads hR
      have B1 := Lib.hid (bel BW.out hb)
      have BF1 := Lib.hid (BF.out.stay hb)
      have HC1 := Lib.hid (HC2.out.stay hb)
      have HCW := Lib.hid hC
      have HCC := Lib.hid hc0
      obtain ⟨b, o, hA0, hbl, hcell⟩ := (strs_k hC hc0).at (by omega)
      subst hA0
      have k0 : w1.cell? ⟨b, o, none⟩ = some (.string f) := by
        have := hcell 0 _ (strs_get ws 0 (by omega))
        rw [← HF.out, Nat.add_zero] at this
        exact this
      obtain ⟨⟨q0, q1, q2, q3⟩, ⟨d0, d1, d2, d3⟩, ⟨g0, g1, g2, g3⟩, hl0, hl1', fr1⟩ := BF1.out.cells
      have fr2 : w1.frozen? ⟨w.heap.size, 2, none⟩ = false := blk_free BF1.out.b0 2
      have fr3 : w1.frozen? ⟨w.heap.size, 3, none⟩ = false := blk_free BF1.out.b0 3
      clear hR hC hb hcell hc0
      have H1 := Lib.hid fun W hW => rone_any (some ⟨b, o, none⟩) c0 ws W hW HCC.out HWI.out.1
      generalize oneR ws = on at *
      obtain ⟨on1, on2⟩ := on
      go_wp2_with fail
      refine (H1.out _ HCW.out).mono ?_
      rintro e W2 ⟨rfl, hb2⟩
      have k2 : W2.cell? ⟨b, o, none⟩ = some (.string f) := (hb2.cell (p := ⟨b, o, none⟩) hbl).trans k0
      have B2 := Lib.hid (bel B1.out hb2)
      have BF2 := Lib.hid (BF1.out.stay hb2)
      have CC2 := Lib.hid (HC1.out.stay hb2)
      clear q0 q1 q2 q3 d0 d1 d2 d3 g0 g1 g2 g3 hl0 hl1' fr1 fr2 fr3 k0 hb2
      obtain ⟨⟨q0, q1, q2, q3⟩, ⟨d0, d1, d2, d3⟩, ⟨g0, g1, g2, g3⟩, hl0, hl1', fr1⟩ := BF2.out.cells
      have fr2 : W2.frozen? ⟨w.heap.size, 2, none⟩ = false := blk_free BF2.out.b0 2
      have fr3 : W2.frozen? ⟨w.heap.size, 3, none⟩ = false := blk_free BF2.out.b0 3
      go_wp2_with fail
      refine bodyPost_ret (results_ctt rfl _ _ (w.heap.size + 1) 57 #[.slice A c.rs.length cap, .slice TA c.ts.length tcap, .int .i64 c.rep, .int .i64 c.beat] (0, 0) _ rfl (put4 (W := W2) BF2.out.b1 (.slice A c.rs.length cap) (.slice TA c.ts.length tcap) (.int .i64 c.rep) (.int .i64 c.beat)) Tryz.underlying57 rfl (by kernel_rfl)) rfl ?_
      rw [HYR.out]
      exact ⟨_, _, _, _, _, _, _, _, _, rfl, below4 (bel_low hg B2.out) (by omega) _ _ _ _, (KeptT.bel B2.out).put4 (Nat.le_succ _) _ _ _ _, fun h => absurd h (by show ¬ (10 : Int) = 0; decide)⟩
  by_cases hP : f.data.toList = repT
  · have hf := hP
    clear hP
    by_cases hn2 : n = 2
    · as_aux_lemma =>
      obtain rfl : n = 2 := hn2
      have HYR := Lib.hid (HY.out.trans (lineS_rep (by rw [HFD.out]; exact hf) (by rw [mayP HA.out]; rfl)))
      have HTS := Lib.hid (timeS_oneR c.rep ws)
      have eR : (f.toList == [114, 101, 99, 101, 105, 118, 101, 114]) = false := neq_of (l := rcvT) (by rw [hf]; decide)
      have eT : (f.toList == [114, 111, 117, 116, 101]) = false := neq_of (l := rteT) (by rw [hf]; decide)
      have eP : (f.toList == [114, 101, 112, 101, 97, 116]) = true := eq_of (l := repT) hf
      have eB : (f.toList == [98, 101, 97, 116]) = false := neq_of (l := beatT) (by rw [hf]; decide)
      clear HY HFD hf
      go_enter Tryz.func57, Tryz.ntmps57
      go_wp2_with fail
      rw [← HW2.out]
      refine (HWD.out _).mono ?_
      rintro e w1 ⟨v0, rfl, hR, hb⟩
      obtain ⟨A0, c0, rfl, hc0, hC⟩ := Kd.R_reads hR
      have B1 := Lib.hid (bel BW.out hb)
      have BF1 := Lib.hid (BF.out.stay hb)
      have HC1 := Lib.hid (HC2.out.stay hb)
      have HCW := Lib.hid hC
      have HCC := Lib.hid hc0
      obtain ⟨b, o, hA0, hbl, hcell⟩ := (strs_k hC hc0).at (by omega)
      subst hA0
      have k0 : w1.cell? ⟨b, o, none⟩ = some (.string f) := by
        have := hcell 0 _ (strs_get ws 0 (by omega))
        rw [← HF.out, Nat.add_zero] at this
        exact this
      obtain ⟨⟨q0, q1, q2, q3⟩, ⟨d0, d1, d2, d3⟩, ⟨g0, g1, g2, g3⟩, hl0, hl1', fr1⟩ := BF1.out.cells
      have fr2 : w1.frozen? ⟨w.heap.size, 2, none⟩ = false := blk_free BF1.out.b0 2
      have fr3 : w1.frozen? ⟨w.heap.size, 3, none⟩ = false := blk_free BF1.out.b0 3
      clear hR hC hb hcell hc0
      have H1 := Lib.hid fun W hW => rone_any (some ⟨b, o, none⟩) c0 ws W hW HCC.out HWI.out.1
      generalize oneR ws = on at *
      obtain ⟨on1, on2⟩ := on
      go_wp2_with fail
      refine (H1.out _ HCW.out).mono ?_
      rintro e W2 ⟨rfl, hb2⟩
      have k2 : W2.cell? ⟨b, o, none⟩ = some (.string f) := (hb2.cell (p := ⟨b, o, none⟩) hbl).trans k0
      have B2 := Lib.hid (bel B1.out hb2)
      have BF2 := Lib.hid (BF1.out.stay hb2)
      have CC2 := Lib.hid (HC1.out.stay hb2)
      clear q0 q1 q2 q3 d0 d1 d2 d3 g0 g1 g2 g3 hl0 hl1' fr1 fr2 fr3 k0 hb2
      obtain ⟨⟨q0, q1, q2, q3⟩, ⟨d0, d1, d2, d3⟩, ⟨g0, g1, g2, g3⟩, hl0, hl1', fr1⟩ := BF2.out.cells
      have fr2 : W2.frozen? ⟨w.heap.size, 2, none⟩ = false := blk_free BF2.out.b0 2
      have fr3 : W2.frozen? ⟨w.heap.size, 3, none⟩ = false := blk_free BF2.out.b0 3
      go_wp2_with fail
      have X0 := blk_put BF2.out.b0 2 (.int .i64 on1) rfl
      have X1 := blk_set_far BF2.out.b1 (a := ⟨w.heap.size, 2, none⟩) (by simp) (.int .i64 on1)
      refine bodyPost_ret (results_ctt rfl _ _ (w.heap.size + 1) 57 #[.slice A c.rs.length cap, .slice TA c.ts.length tcap, .int .i64 on1, .int .i64 c.beat] (0, 0) _ rfl (put4 X1 (.slice A c.rs.length cap) (.slice TA c.ts.length tcap) (.int .i64 on1) (.int .i64 c.beat)) Tryz.underlying57 rfl (by kernel_rfl)) rfl ?_
      rw [HYR.out]
      have hTS := HTS.out
      rw [hTS.1]
      have hCC : CfA W2 g (.slice A c.rs.length cap) (.slice TA c.ts.length tcap) { c with rep := (timeS c.rep ws).1 } := ⟨CC2.out.rs, CC2.out.ts, CC2.out.rl, CC2.out.tl⟩
      exact ⟨_, _, _, _, _, _, _, _, _, rfl, below4 (bset (bel_low hg B2.out) hg _) (by omega) _ _ _ _, ((KeptT.bel B2.out).set (Nat.le_refl _) _).put4 (Nat.le_succ _) _ _ _ _, fun h0 => ⟨(hCC.set2 BF2.out.b0 2 _).put4 X1 _ _ _ _, (hTS.2 h0).symm, rfl, .inr (.inr (.inr (.inl ⟨rfl, rfl⟩)))⟩⟩
    · as_aux_lemma =>
      have HYR := Lib.hid (HY.out.trans (lineS_no rfl (by rw [HFD.out, hf, mayP HA.out, decide_eq_false hn2])))
      have eR : (f.toList == [114, 101, 99, 101, 105, 118, 101, 114]) = false := neq_of (l := rcvT) (by rw [hf]; decide)
      have eT : (f.toList == [114, 111, 117, 116, 101]) = false := neq_of (l := rteT) (by rw [hf]; decide)
      have eP : (f.toList == [114, 101, 112, 101, 97, 116]) = true := eq_of (l := repT) hf
      have eB : (f.toList == [98, 101, 97, 116]) = false := neq_of (l := beatT) (by rw [hf]; decide)
      have hq2 : (n == 2) = false := by simpa using hn2
      clear hn2
      clear HY HFD hf
      go_enter Tryz.func57, Tryz.ntmps57
      go_wp2_with fail
      rw [← HW2.out]
      refine (HWD.out _).mono ?_
      rintro e w1 ⟨v0, rfl, hR, hb⟩
      obtain ⟨A0, c0, rfl, hc0, hC⟩ := Kd.R_reads hR
      have B1 := Lib.hid (bel BW.out hb)
      have BF1 := Lib.hid (BF.out.stay hb)
      have HC1 := Lib.hid (HC2.out.stay hb)
      have HCW := Lib.hid hC
      have HCC := Lib.hid hc0
      obtain ⟨b, o, hA0, hbl, hcell⟩ := (strs_k hC hc0).at (by omega)
      subst hA0
      have k0 : w1.cell? ⟨b, o, none⟩ = some (.string f) := by
        have := hcell 0 _ (strs_get ws 0 (by omega))
        rw [← HF.out, Nat.add_zero] at this
        exact this
      obtain ⟨⟨q0, q1, q2, q3⟩, ⟨d0, d1, d2, d3⟩, ⟨g0, g1, g2, g3⟩, hl0, hl1', fr1⟩ := BF1.out.cells
      have fr2 : w1.frozen? ⟨w.heap.size, 2, none⟩ = false := blk_free BF1.out.b0 2
      have fr3 : w1.frozen? ⟨w.heap.size, 3, none⟩ = false := blk_free BF1.out.b0 3
      clear hR hC hb hcell hc0
      have H1 := Lib.hid fun W hW => rone_any (some ⟨b, o, none⟩) c0 ws W hW HCC.out HWI.out.1
      generalize oneR ws = on at *
      obtain ⟨on1, on2⟩ := on
      go_wp2_with fail
      refine (H1.out _ HCW.out).mono ?_
      rintro e W2 ⟨rfl, hb2⟩
      have k2 : W2.cell? ⟨b, o, none⟩ = some (.string f) := (hb2.cell (p := ⟨b, o, none⟩) hbl).trans k0
      have B2 := Lib.hid (bel B1.out hb2)
      have BF2 := Lib.hid (BF1.out.stay hb2)
      have CC2 := Lib.hid (HC1.out.stay hb2)
      clear q0 q1 q2 q3 d0 d1 d2 d3 g0 g1 g2 g3 hl0 hl1' fr1 fr2 fr3 k0 hb2
      obtain ⟨⟨q0, q1, q2, q3⟩, ⟨d0, d1, d2, d3⟩, ⟨g0, g1, g2, g3⟩, hl0, hl1', fr1⟩ := BF2.out.cells
      have fr2 : W2.frozen? ⟨w.heap.size, 2, none⟩ = false := blk_free BF2.out.b0 2
      have fr3 : W2.frozen? ⟨w.heap.size, 3, none⟩ = false := blk_free BF2.out.b0 3
      go_wp2_with fail
      refine bodyPost_ret (results_ctt rfl _ _ (w.heap.size + 1) 57 #[.slice A c.rs.length cap, .slice TA c.ts.length tcap, .int .i64 c.rep, .int .i64 c.beat] (0, 0) _ rfl (put4 (W := W2) BF2.out.b1 (.slice A c.rs.length cap) (.slice TA c.ts.length tcap) (.int .i64 c.rep) (.int .i64 c.beat)) Tryz.underlying57 rfl (by kernel_rfl)) rfl ?_
      rw [HYR.out]
      exact ⟨_, _, _, _, _, _, _, _, _, rfl, below4 (bel_low hg B2.out) (by omega) _ _ _ _, (KeptT.bel B2.out).put4 (Nat.le_succ _) _ _ _ _, fun h => absurd h (by show ¬ (10 : Int) = 0; decide)⟩
  by_cases hB : f.data.toList = beatT
  · have hf := hB
    clear hB
    by_cases hn2 : n = 3
    · as_aux_lemma =>
      obtain rfl : n = 3 := hn2
      have HYR := Lib.hid (HY.out.trans (lineS_bt (by rw [HFD.out]; exact hf) (by rw [mayBt HA.out]; rfl)))
      have HTS := Lib.hid (timeS_oneR c.beat ws)
      have eR : (f.toList == [114, 101, 99, 101, 105, 118, 101, 114]) = false := neq_of (l := rcvT) (by rw [hf]; decide)
      have eT : (f.toList == [114, 111, 117, 116, 101]) = false := neq_of (l := rteT) (by rw [hf]; decide)
      have eP : (f.toList == [114, 101, 112, 101, 97, 116]) = false := neq_of (l := repT) (by rw [hf]; decide)
      have eB : (f.toList == [98, 101, 97, 116]) = true := eq_of (l := beatT) hf
      clear HY HFD hf
      go_enter Tryz.func57, Tryz.ntmps57
      go_wp2_with fail
      rw [← HW2.out]
      refine (HWD.out _).mono ?_
      rintro e w1 ⟨v0, rfl, hR, hb⟩
      obtain ⟨A0, c0, rfl, hc0, hC⟩ := Kd.R_reads hR
      have B1 := Lib.hid (bel BW.out hb)
      have BF1 := Lib.hid (BF.out.stay hb)
      have HC1 := Lib.hid (HC2.out.stay hb)
      have HCW := Lib.hid hC
      have HCC := Lib.hid hc0
      obtain ⟨b, o, hA0, hbl, hcell⟩ := (strs_k hC hc0).at (by omega)
      subst hA0
      have k0 : w1.cell? ⟨b, o, none⟩ = some (.string f) := by
        have := hcell 0 _ (strs_get ws 0 (by omega))
        rw [← HF.out, Nat.add_zero] at this
        exact this
      obtain ⟨⟨q0, q1, q2, q3⟩, ⟨d0, d1, d2, d3⟩, ⟨g0, g1, g2, g3⟩, hl0, hl1', fr1⟩ := BF1.out.cells
      have fr2 : w1.frozen? ⟨w.heap.size, 2, none⟩ = false := blk_free BF1.out.b0 2
      have fr3 : w1.frozen? ⟨w.heap.size, 3, none⟩ = false := blk_free BF1.out.b0 3
      clear hR hC hb hcell hc0
      have H1 := Lib.hid fun W hW => rone_any (some ⟨b, o, none⟩) c0 ws W hW HCC.out HWI.out.1
      generalize oneR ws = on at *
      obtain ⟨on1, on2⟩ := on
      go_wp2_with fail
      refine (H1.out _ HCW.out).mono ?_
      rintro e W2 ⟨rfl, hb2⟩
      have k2 : W2.cell? ⟨b, o, none⟩ = some (.string f) := (hb2.cell (p := ⟨b, o, none⟩) hbl).trans k0
      have B2 := Lib.hid (bel B1.out hb2)
      have BF2 := Lib.hid (BF1.out.stay hb2)
      have CC2 := Lib.hid (HC1.out.stay hb2)
      clear q0 q1 q2 q3 d0 d1 d2 d3 g0 g1 g2 g3 hl0 hl1' fr1 fr2 fr3 k0 hb2
      obtain ⟨⟨q0, q1, q2, q3⟩, ⟨d0, d1, d2, d3⟩, ⟨g0, g1, g2, g3⟩, hl0, hl1', fr1⟩ := BF2.out.cells
      have fr2 : W2.frozen? ⟨w.heap.size, 2, none⟩ = false := blk_free BF2.out.b0 2
      have fr3 : W2.frozen? ⟨w.heap.size, 3, none⟩ = false := blk_free BF2.out.b0 3
      go_wp2_with fail
      have X0 := blk_put BF2.out.b0 3 (.int .i64 on1) rfl
      have X1 := blk_set_far BF2.out.b1 (a := ⟨w.heap.size, 3, none⟩) (by simp) (.int .i64 on1)
      refine bodyPost_ret (results_ctt rfl _ _ (w.heap.size + 1) 57 #[.slice A c.rs.length cap, .slice TA c.ts.length tcap, .int .i64 c.rep, .int .i64 on1] (0, 0) _ rfl (put4 X1 (.slice A c.rs.length cap) (.slice TA c.ts.length tcap) (.int .i64 c.rep) (.int .i64 on1)) Tryz.underlying57 rfl (by kernel_rfl)) rfl ?_
      rw [HYR.out]
      have hTS := HTS.out
      rw [hTS.1]
      have hCC : CfA W2 g (.slice A c.rs.length cap) (.slice TA c.ts.length tcap) { c with beat := (timeS c.beat ws).1 } := ⟨CC2.out.rs, CC2.out.ts, CC2.out.rl, CC2.out.tl⟩
      exact ⟨_, _, _, _, _, _, _, _, _, rfl, below4 (bset (bel_low hg B2.out) hg _) (by omega) _ _ _ _, ((KeptT.bel B2.out).set (Nat.le_refl _) _).put4 (Nat.le_succ _) _ _ _ _, fun h0 => ⟨(hCC.set2 BF2.out.b0 3 _).put4 X1 _ _ _ _, rfl, (hTS.2 h0).symm, .inr (.inr (.inr (.inr ⟨rfl, rfl⟩)))⟩⟩
    · as_aux_lemma =>
      have HYR := Lib.hid (HY.out.trans (lineS_no rfl (by rw [HFD.out, hf, mayBt HA.out, decide_eq_false hn2])))
      have eR : (f.toList == [114, 101, 99, 101, 105, 118, 101, 114]) = false := neq_of (l := rcvT) (by rw [hf]; decide)
      have eT : (f.toList == [114, 111, 117, 116, 101]) = false := neq_of (l := rteT) (by rw [hf]; decide)
      have eP : (f.toList == [114, 101, 112, 101, 97, 116]) = false := neq_of (l := repT) (by rw [hf]; decide)
      have eB : (f.toList == [98, 101, 97, 116]) = true := eq_of (l := beatT) hf
      have hq2 : (n == 3) = false := by simpa using hn2
      clear hn2
      clear HY HFD hf
      go_enter Tryz.func57, Tryz.ntmps57
      go_wp2_with fail
      rw [← HW2.out]
      refine (HWD.out _).mono ?_
      rintro e w1 ⟨v0, rfl, hR, hb⟩
      obtain ⟨A0, c0, rfl, hc0, hC⟩ := Kd.R_reads hR
      have B1 := Lib.hid (bel BW.out hb)
      have BF1 := Lib.hid (BF.out.stay hb)
      have HC1 := Lib.hid (HC2.out.stay hb)
      have HCW := Lib.hid hC
      have HCC := Lib.hid hc0
      obtain ⟨b, o, hA0, hbl, hcell⟩ := (strs_k hC hc0).at (by omega)
      subst hA0
      have k0 : w1.cell? ⟨b, o, none⟩ = some (.string f) := by
        have := hcell 0 _ (strs_get ws 0 (by omega))
        rw [← HF.out, Nat.add_zero] at this
        exact this
      obtain ⟨⟨q0, q1, q2, q3⟩, ⟨d0, d1, d2, d3⟩, ⟨g0, g1, g2, g3⟩, hl0, hl1', fr1⟩ := BF1.out.cells
      have fr2 : w1.frozen? ⟨w.heap.size, 2, none⟩ = false := blk_free BF1.out.b0 2
      have fr3 : w1.frozen? ⟨w.heap.size, 3, none⟩ = false := blk_free BF1.out.b0 3
      clear hR hC hb hcell hc0
      have H1 := Lib.hid fun W hW => rone_any (some ⟨b, o, none⟩) c0 ws W hW HCC.out HWI.out.1
      generalize oneR ws = on at *
      obtain ⟨on1, on2⟩ := on
      go_wp2_with fail
      refine (H1.out _ HCW.out).mono ?_
      rintro e W2 ⟨rfl, hb2⟩
      have k2 : W2.cell? ⟨b, o, none⟩ = some (.string f) := (hb2.cell (p := ⟨b, o, none⟩) hbl).trans k0
      have B2 := Lib.hid (bel B1.out hb2)
      have BF2 := Lib.hid (BF1.out.stay hb2)
      have CC2 := Lib.hid (HC1.out.stay hb2)
      clear q0 q1 q2 q3 d0 d1 d2 d3 g0 g1 g2 g3 hl0 hl1' fr1 fr2 fr3 k0 hb2
      obtain ⟨⟨q0, q1, q2, q3⟩, ⟨d0, d1, d2, d3⟩, ⟨g0, g1, g2, g3⟩, hl0, hl1', fr1⟩ := BF2.out.cells
      have fr2 : W2.frozen? ⟨w.heap.size, 2, none⟩ = false := blk_free BF2.out.b0 2
      have fr3 : W2.frozen? ⟨w.heap.size, 3, none⟩ = false := blk_free BF2.out.b0 3
      go_wp2_with fail
      refine bodyPost_ret (results_ctt rfl _ _ (w.heap.size + 1) 57 #[.slice A c.rs.length cap, .slice TA c.ts.length tcap, .int .i64 c.rep, .int .i64 c.beat] (0, 0) _ rfl (put4 (W := W2) BF2.out.b1 (.slice A c.rs.length cap) (.slice TA c.ts.length tcap) (.int .i64 c.rep) (.int .i64 c.beat)) Tryz.underlying57 rfl (by kernel_rfl)) rfl ?_
      rw [HYR.out]
      exact ⟨_, _, _, _, _, _, _, _, _, rfl, below4 (bel_low hg B2.out) (by omega) _ _ _ _, (KeptT.bel B2.out).put4 (Nat.le_succ _) _ _ _ _, fun h => absurd h (by show ¬ (10 : Int) = 0; decide)⟩
  · as_aux_lemma =>
    have HYR := Lib.hid (HY.out.trans (lineS_no rfl (by rw [HFD.out]; exact mayO hR hT hP hB)))
    have eR : (f.toList == [114, 101, 99, 101, 105, 118, 101, 114]) = false := neq_of (l := rcvT) hR
    have eT : (f.toList == [114, 111, 117, 116, 101]) = false := neq_of (l := rteT) hT
    have eP : (f.toList == [114, 101, 112, 101, 97, 116]) = false := neq_of (l := repT) hP
    have eB : (f.toList == [98, 101, 97, 116]) = false := neq_of (l := beatT) hB
    clear HY HFD hR hT hP hB
    go_enter Tryz.func57, Tryz.ntmps57
    go_wp2_with fail
    rw [← HW2.out]
    refine (HWD.out _).mono ?_
    rintro e w1 ⟨v0, rfl, hR, hb⟩
    obtain ⟨A0, c0, rfl, hc0, hC⟩ := Kd.R_reads hR
    have B1 := Lib.hid (bel BW.out hb)
    have BF1 := Lib.hid (BF.out.stay hb)
    have HC1 := Lib.hid (HC2.out.stay hb)
    have HCW := Lib.hid hC
    have HCC := Lib.hid hc0
    obtain ⟨b, o, hA0, hbl, hcell⟩ := (strs_k hC hc0).at (by omega)
    subst hA0
    have k0 : w1.cell? ⟨b, o, none⟩ = some (.string f) := by
      have := hcell 0 _ (strs_get ws 0 (by omega))
      rw [← HF.out, Nat.add_zero] at this
      exact this
    obtain ⟨⟨q0, q1, q2, q3⟩, ⟨d0, d1, d2, d3⟩, ⟨g0, g1, g2, g3⟩, hl0, hl1', fr1⟩ := BF1.out.cells
    have fr2 : w1.frozen? ⟨w.heap.size, 2, none⟩ = false := blk_free BF1.out.b0 2
    have fr3 : w1.frozen? ⟨w.heap.size, 3, none⟩ = false := blk_free BF1.out.b0 3
    clear hR hC hb hcell hc0
    have H1 := Lib.hid fun W hW => rone_any (some ⟨b, o, none⟩) c0 ws W hW HCC.out HWI.out.1
    generalize oneR ws = on at *
    obtain ⟨on1, on2⟩ := on
    go_wp2_with fail
    refine (H1.out _ HCW.out).mono ?_
    rintro e W2 ⟨rfl, hb2⟩
    have k2 : W2.cell? ⟨b, o, none⟩ = some (.string f) := (hb2.cell (p := ⟨b, o, none⟩) hbl).trans k0
    have B2 := Lib.hid (bel B1.out hb2)
    have BF2 := Lib.hid (BF1.out.stay hb2)
    have CC2 := Lib.hid (HC1.out.stay hb2)
    clear q0 q1 q2 q3 d0 d1 d2 d3 g0 g1 g2 g3 hl0 hl1' fr1 fr2 fr3 k0 hb2
    obtain ⟨⟨q0, q1, q2, q3⟩, ⟨d0, d1, d2, d3⟩, ⟨g0, g1, g2, g3⟩, hl0, hl1', fr1⟩ := BF2.out.cells
    have fr2 : W2.frozen? ⟨w.heap.size, 2, none⟩ = false := blk_free BF2.out.b0 2
    have fr3 : W2.frozen? ⟨w.heap.size, 3, none⟩ = false := blk_free BF2.out.b0 3
    go_wp2_with fail
    refine bodyPost_ret (results_ctt rfl _ _ (w.heap.size + 1) 57 #[.slice A c.rs.length cap, .slice TA c.ts.length tcap, .int .i64 c.rep, .int .i64 c.beat] (0, 0) _ rfl (put4 (W := W2) BF2.out.b1 (.slice A c.rs.length cap) (.slice TA c.ts.length tcap) (.int .i64 c.rep) (.int .i64 c.beat)) Tryz.underlying57 rfl (by kernel_rfl)) rfl ?_
    rw [HYR.out]
    exact ⟨_, _, _, _, _, _, _, _, _, rfl, below4 (bel_low hg B2.out) (by omega) _ _ _ _, (KeptT.bel B2.out).put4 (Nat.le_succ _) _ _ _ _, fun h => absurd h (by show ¬ (10 : Int) = 0; decide)⟩
end Go.Proofs.YtjfknmlchdifjaaGreatDoor
namespace Go.Proofs.YtjfknmlchdifjaaGreatDoorQ.P
open Go.RowKit Go.Proofs.YtjfknmlchdifjaaGreatDoorW.PrintWords Go.Proofs.YtjfknmlchdifjaaGreatDoorW.PrintLast Go.Proofs.YtjfknmlchdifjaaGreatDoorW.PrintMore
attribute [local go_sem] max2_int min2_int max_two min_two max_three min_three max_four min_four
def foghornref13_Lines.l0 : Nat → ByteArray → List ByteArray → Int → Int → Option (List ByteArray)
 | 0, _, _, _, _ => none
 | k + 1, x0, x3, x4, x5 => if x5 < (x0.size : Int) then (if 0 ≤ x5 then (if (bt x0 x5) = 10 then (if 0 ≤ x4 then (if x4 ≤ x5 then (if x5 ≤ (x0.size : Int) then (if x3.length < 8796093022208 then (foghornref13_Lines.l0 k x0 (x3 ++ [x0.extract (x4 : Int).toNat (x5 : Int).toNat]) (wrap64 (x5 + 1)) (wrap64 (x5 + 1))) else (none)) else (none)) else (none)) else (none)) else (foghornref13_Lines.l0 k x0 x3 x4 (wrap64 (x5 + 1)))) else (none)) else (if x4 < (x0.size : Int) then (if 0 ≤ x4 then (if x4 ≤ (x0.size : Int) then (if x3.length < 8796093022208 then (some (x3 ++ [x0.extract (x4 : Int).toNat x0.size])) else (none)) else (none)) else (none)) else (some x3))
def foghornref13_Lines.f (k : Nat) (a0 : ByteArray) : Option (List ByteArray) := foghornref13_Lines.l0 k a0 (([] : List ByteArray)) 0 0
set_option maxHeartbeats 8000000 in
set_option maxRecDepth 100000 in
theorem foghornref13_Lines.calls (k : Nat) (a0 : ByteArray) (r : List ByteArray) (w : World) (h : foghornref13_Lines.f k a0 = some r) :
  Calls Tryz.prog 56 #[.string a0] w fun e w' => ∃ v0_ : Value, e = .returned (v0_) ∧ Kd.R Kd.string 9 w' w.heap.size (fun _ => True) v0_ r ∧ Below w.heap.size w w' := by
 have HB := aA (Below.refl w.heap.size w)
 have H : (foghornref13_Lines.l0 k a0 (([] : List ByteArray)) 0 0) = some r := h
 clear h
 obtain ⟨y361, hy361⟩ : ∃ y_ : List ByteArray, y_ = (([] : List ByteArray)) := ⟨_, rfl⟩
 replace H : (foghornref13_Lines.l0 k a0 y361 0 0) = some r := by first | (rw [hy361]; with_reducible exact H) | (have H2_ := (Option.bind_some _ _).symm.trans H; rw [hy361]; with_reducible exact H2_) | (have H2_ := (Option.bind_some _ _).symm.trans H; with_reducible exact H2_) | with_reducible exact H | (rw [hy361]; exact H) | exact H
 have Ny361 := aA hy361
 clear hy361
 have H' := aA H
 clear H
 go_enter Tryz.func56, Tryz.ntmps56
 go_wp2_with (first | ((with_reducible refine gate_dst (N := 6) rfl ?_); refine Kd.R_lit Kd.string _ 9 ?hg (N := 6) ?hd (xs := ([] : List ByteArray)) (inner := []) (ok := fun _ => True) (okp := fun _ => True) ?hr ?hp (fun _ hk => hk) trivial (Below.refl _ _) (Nat.le_refl _) (by simp) ?_; (case hd => rfl); (case hg => rfl); (case hr => first | (go_simp; done) | (go_simp; rfl)); (case hp => exact (Reps.none _ _)); intro v362 w2 ho3 hb hg_ hnew_; clear hg_ hnew_; (first | rw [← Ny361.out] at ho3 | (simp only [Int.reduceToNat] at ho3; rw [← Ny361.out] at ho3)); have n0_ := aA (Kd.R_lower ho3 (below_size mB)); have n1_ := aA (below_step mB hb); clear HB; have HO363 := n0_; have HB := n1_; clear n0_ n1_ hb ho3))
 go_loopg [3, 4, 5] k (fun kq v3 v4 v5 w' => ∃ (x3_1 : List ByteArray) (x4_1 : Int) (x5_1 : Int), v4 = .int .i64 x4_1 ∧ v5 = .int .i64 x5_1 ∧ Aside0 (foghornref13_Lines.l0 kq a0 x3_1 x4_1 x5_1 = some r) ∧ Aside0 (kq ≤ k) ∧ Aside0 (Kd.R Kd.string 9 w' w.heap.size (fun _ => True) v3 x3_1) ∧ Aside0 (Below w.heap.size w w'))
 case atStart => exact ⟨(y361), (0), (0), (by first | rfl | (simp; done) | (simp [*]; done)), (by first | rfl | (simp; done) | (simp [*]; done)), H', ⟨Nat.le_refl _⟩, ⟨by (with_reducible repeat (first | apply Kd.R_alloc | apply Kd.R_drewN | apply Kd.R_drew)); exact HO363.out⟩, ⟨by repeat (first | (with_reducible first | exact HB.out | apply below_alloc | apply pw_below_drewN | apply below_drew1) | exact HB.out)⟩⟩
 case round =>
  clear H'
  try clear p2
  obtain ⟨x3_1, x4_1, x5_1, rfl, rfl, HA, HK1, HO_3, HB⟩ := hrel
  cases gk with
  | zero => exact absurd HA.out (by simp [foghornref13_Lines.l0])
  | succ k1 =>
   have H := HA.out
   clear HA
   simp only [foghornref13_Lines.l0] at H
   by_cases c4 : x5_1 < (a0.size : Int)
   ·rw [if_pos c4] at H
    have c4b0 : decide (x5_1 < (a0.size : Int)) = true := decide_eq_true c4
    clear c4
    by_cases c5 : 0 ≤ x5_1
    ·rw [if_pos c5] at H
     have c5b0 : decide (0 ≤ x5_1) = true := decide_eq_true c5
     clear c5
     by_cases c7 : (bt a0 x5_1) = 10
     ·rw [if_pos c7] at H
      have c7b0 : ((bt a0 x5_1) == 10) = true := beq_iff_eq.mpr c7
      have c7b1 : ((bt a0 x5_1) != 10) = false := bne_eq_false_iff_eq.mpr c7
      clear c7
      by_cases c8 : 0 ≤ x4_1
      ·rw [if_pos c8] at H
       have c8b0 := eq_true c8
       have c8b1 := decide_eq_true c8
       clear c8
       by_cases c9 : x4_1 ≤ x5_1
       ·rw [if_pos c9] at H
        have c9b0 := eq_true c9
        have c9b1 := decide_eq_true c9
        clear c9
        by_cases c10 : x5_1 ≤ (a0.size : Int)
        ·rw [if_pos c10] at H
         have c10b0 := eq_true c10
         have c10b1 := decide_eq_true c10
         clear c10
         by_cases c11 : x3_1.length < 8796093022208
         ·rw [if_pos c11] at H
          have LMc11 := aA c11
          clear c11
          obtain ⟨y364, hy364⟩ : ∃ y_ : List ByteArray, y_ = (x3_1 ++ [a0.extract (x4_1 : Int).toNat (x5_1 : Int).toNat]) := ⟨_, rfl⟩
          replace H : (foghornref13_Lines.l0 k1 a0 y364 (wrap64 (x5_1 + 1)) (wrap64 (x5_1 + 1))) = some r := by first | (rw [hy364]; with_reducible exact H) | (have H2_ := (Option.bind_some _ _).symm.trans H; rw [hy364]; with_reducible exact H2_) | (have H2_ := (Option.bind_some _ _).symm.trans H; with_reducible exact H2_) | with_reducible exact H | (rw [hy364]; exact H) | exact H
          have Ny364 := aA hy364
          clear hy364
          have H' := aA H
          clear H
          have p6 : 0 ≤ (x5_1 : Int) := of_decide_eq_true (by first | (with_reducible assumption) | assumption)
          have q6 : x5_1 < (a0.size : Int) := of_decide_eq_true (by first | (with_reducible assumption) | assumption)
          have hx6 := bt_at a0 x5_1
          replace p6 := eq_true p6
          replace q6 := eq_true q6
          go_wp2_with (first | ((with_reducible refine gate_builtin (b := .append) (xs := #[.tmp 17, .tmp 22]) rfl ?_); at_builtin; refine Kd.R_append Kd.string (w0 := w) w.heap.size rfl (.tmp 17) (.tmp 22) 67 9 (.string ⟨#[]⟩) 16 rfl Tryz.underlying67 info9 rfl (by decide) (by omega) u3 x3_1 (a0.extract (x4_1 : Int).toNat (x5_1 : Int).toNat) [.string (a0.extract (x4_1 : Int).toNat (x5_1 : Int).toNat)] (fun _ => True) (fun _ => False) rfl rfl ?aP (fun _ hk => hk.elim) ?aF ?aO ?aB ?aS ?aL ?_; (case aP => exact rfl); (case aB => exact mB); (case aF => exact (fun _ _ => trivial)); (case aO => exact (mR HO_3.out)); (case aS => exact (below_size mB)); (case aL => have := LMc11.out; omega); intro v365 w12 ho hb hg hat; rw [← Ny364.out] at ho; have n0_ := aA (hb); have n1_ := aA (ho); clear HB HO_3; have HB := n0_; have HO366 := n1_; clear n0_ n1_ ho hb hg hat))
          go_roundg k1
          case measure => have := HK1.out; omega
          case rel => exact ⟨(y364), (wrap64 (x5_1 + 1)), (wrap64 (x5_1 + 1)), (by first | rfl | (simp; done) | (simp [*]; done)), (by first | rfl | (simp; done) | (simp [*]; done)), H', ⟨by have := HK1.out; omega⟩, ⟨by (with_reducible repeat (first | apply Kd.R_alloc | apply Kd.R_drewN | apply Kd.R_drew)); exact HO366.out⟩, ⟨by repeat (first | (with_reducible first | exact HB.out | apply below_alloc | apply pw_below_drewN | apply below_drew1) | exact HB.out)⟩⟩
         ·rw [if_neg c11] at H
          exact absurd H (by simp)
        ·rw [if_neg c10] at H
         exact absurd H (by simp)
       ·rw [if_neg c9] at H
        exact absurd H (by simp)
      ·rw [if_neg c8] at H
       exact absurd H (by simp)
     ·rw [if_neg c7] at H
      have c7b0 : ((bt a0 x5_1) == 10) = false := beq_eq_false_iff_ne.mpr c7
      have c7b1 : ((bt a0 x5_1) != 10) = true := bne_iff_ne.mpr c7
      have H' := aA H
      clear H
      have p6 : 0 ≤ (x5_1 : Int) := of_decide_eq_true (by first | (with_reducible assumption) | assumption)
      have q6 : x5_1 < (a0.size : Int) := of_decide_eq_true (by first | (with_reducible assumption) | assumption)
      have hx6 := bt_at a0 x5_1
      replace p6 := eq_true p6
      replace q6 := eq_true q6
      go_wp2
      go_roundg k1
      case measure => have := HK1.out; omega
      case rel => exact ⟨(x3_1), (x4_1), (wrap64 (x5_1 + 1)), (by first | rfl | (simp; done) | (simp [*]; done)), (by first | rfl | (simp; done) | (simp [*]; done)), H', ⟨by have := HK1.out; omega⟩, ⟨by (with_reducible repeat (first | apply Kd.R_alloc | apply Kd.R_drewN | apply Kd.R_drew)); exact HO_3.out⟩, ⟨by repeat (first | (with_reducible first | exact HB.out | apply below_alloc | apply pw_below_drewN | apply below_drew1) | exact HB.out)⟩⟩
    ·rw [if_neg c5] at H
     exact absurd H (by simp)
   ·rw [if_neg c4] at H
    have c4b0 : decide (x5_1 < (a0.size : Int)) = false := decide_eq_false c4
    clear c4
    by_cases c13 : x4_1 < (a0.size : Int)
    ·rw [if_pos c13] at H
     have c13b0 : decide (x4_1 < (a0.size : Int)) = true := decide_eq_true c13
     clear c13
     by_cases c14 : 0 ≤ x4_1
     ·rw [if_pos c14] at H
      have c14b0 := eq_true c14
      have c14b1 := decide_eq_true c14
      clear c14
      by_cases c15 : x4_1 ≤ (a0.size : Int)
      ·rw [if_pos c15] at H
       have c15b0 := eq_true c15
       have c15b1 := decide_eq_true c15
       clear c15
       by_cases c16 : x3_1.length < 8796093022208
       ·rw [if_pos c16] at H
        have LMc16 := aA c16
        clear c16
        obtain ⟨y367, hy367⟩ : ∃ y_ : List ByteArray, y_ = (x3_1 ++ [a0.extract (x4_1 : Int).toNat a0.size]) := ⟨_, rfl⟩
        replace H : (some y367) = some r := by first | (rw [hy367]; with_reducible exact H) | (have H2_ := (Option.bind_some _ _).symm.trans H; rw [hy367]; with_reducible exact H2_) | (have H2_ := (Option.bind_some _ _).symm.trans H; with_reducible exact H2_) | with_reducible exact H | (rw [hy367]; exact H) | exact H
        have Ny367 := aA hy367
        clear hy367
        obtain rfl := Option.some.inj H
        go_wp2_with (first | ((with_reducible refine gate_builtin (b := .append) (xs := #[.tmp 30, .tmp 34]) rfl ?_); at_builtin; refine Kd.R_append Kd.string (w0 := w) w.heap.size rfl (.tmp 30) (.tmp 34) 67 9 (.string ⟨#[]⟩) 16 rfl Tryz.underlying67 info9 rfl (by decide) (by omega) u3 x3_1 (a0.extract (x4_1 : Int).toNat a0.size) [.string (a0.extract (x4_1 : Int).toNat a0.size)] (fun _ => True) (fun _ => False) rfl rfl ?aP (fun _ hk => hk.elim) ?aF ?aO ?aB ?aS ?aL ?_; (case aP => exact rfl); (case aB => exact mB); (case aF => exact (fun _ _ => trivial)); (case aO => exact (mR HO_3.out)); (case aS => exact (below_size mB)); (case aL => have := LMc16.out; omega); intro v368 w17 ho hb hg hat; rw [← Ny367.out] at ho; have n0_ := aA (hb); have n1_ := aA (ho); clear HB HO_3; have HB := n0_; have HO369 := n1_; clear n0_ n1_ ho hb hg hat))
        go_ret
        exact ⟨_, by first | rfl | (simp [errW_none, errW_some] <;> rfl) | (simp [*, errW_none, errW_some] <;> rfl), by (with_reducible repeat (first | apply Kd.R_alloc | apply Kd.R_drewN | apply Kd.R_drew)); exact HO369.out, by repeat (first | (with_reducible first | exact HB.out | apply below_alloc | apply pw_below_drewN | apply below_drew1) | exact HB.out)⟩
       ·rw [if_neg c16] at H
        exact absurd H (by simp)
      ·rw [if_neg c15] at H
       exact absurd H (by simp)
     ·rw [if_neg c14] at H
      exact absurd H (by simp)
    ·rw [if_neg c13] at H
     have c13b0 : decide (x4_1 < (a0.size : Int)) = false := decide_eq_false c13
     clear c13
     obtain rfl := Option.some.inj H
     go_wp2
     go_ret
     exact ⟨_, by first | rfl | (simp [errW_none, errW_some] <;> rfl) | (simp [*, errW_none, errW_some] <;> rfl), by (with_reducible repeat (first | apply Kd.R_alloc | apply Kd.R_drewN | apply Kd.R_drew)); exact HO_3.out, by repeat (first | (with_reducible first | exact HB.out | apply below_alloc | apply pw_below_drewN | apply below_drew1) | exact HB.out)⟩
end Go.Proofs.YtjfknmlchdifjaaGreatDoorQ.P
namespace Go.Proofs.YtjfknmlchdifjaaGreatDoorQ.P
open Go.RowKit Go.Proofs.YtjfknmlchdifjaaGreatDoorW.PrintWords Go.Proofs.YtjfknmlchdifjaaGreatDoorW.PrintLast Go.Proofs.YtjfknmlchdifjaaGreatDoorW.PrintMore Go.Proofs.YtjfknmlchdifjaaGreatDoor
theorem linesT_cons {u : List UInt8} (h : (10 : UInt8) ∉ u) (r : List UInt8) : linesT (u ++ 10 :: r) = tx u :: linesT r := by
  by_cases hr : r = []
  · subst hr
    rw [linesT_nl, splitL_one h]
    rfl
  · unfold linesT
    rw [if_neg (by simp), if_neg hr]
    have hg : (u ++ 10 :: r).getLast? = r.getLast? := by
      cases r with
      | nil => exact absurd rfl hr
      | cons b r => rw [List.getLast?_append, List.getLast?_cons_cons]; simp [List.getLast?_cons]
    rw [hg]
    by_cases e : r.getLast? = some 10
    · rw [if_pos e, if_pos e, List.dropLast_append_of_ne_nil (by simp)]
      cases r with
      | nil => exact absurd rfl hr
      | cons b r =>
        show (splitL 10 (u ++ 10 :: (b :: r).dropLast)).map tx = _
        rw [splitL_app _ h]
        rfl
    · rw [if_neg e, if_neg e, splitL_app _ h]
      rfl
theorem linesT_one {u : List UInt8} (h : (10 : UInt8) ∉ u) (hu : u ≠ []) : linesT u = [tx u] := by
  unfold linesT
  rw [if_neg hu, if_neg (fun e => h (List.mem_of_getLast? e)), splitL_one h]
  rfl
theorem lines13_l (s : ByteArray) (hs : s.size ≤ 100000) (d : Nat) : ∀ (k i fr : Nat) (acc : List ByteArray) (u : List UInt8), i + d = s.data.toList.length → d < k → acc.length ≤ i → fr + u.length = i → s.data.toList.drop fr = u ++ s.data.toList.drop i → (10 : UInt8) ∉ u →
    foghornref13_Lines.l0 k s acc (fr : Int) (i : Int) = some (acc ++ linesT (s.data.toList.drop fr)) := by
  have hl := len_data s
  induction d with
  | zero =>
    intro k i fr acc u hi hk ha hf hu hn
    obtain ⟨k, rfl⟩ : ∃ q, k = q + 1 := ⟨k - 1, by omega⟩
    have hz : s.data.toList.drop i = [] := drop_end (by omega)
    rw [hz, List.append_nil] at hu
    by_cases h0 : u = []
    · subst h0
      have hf' : fr = i := by simpa using hf
      rw [foghornref13_Lines.l0, if_neg (by omega), if_neg (by omega), hu]
      show some acc = some (acc ++ [])
      rw [List.append_nil]
    · have hul : 1 ≤ u.length := by
        cases u with
        | nil => exact absurd rfl h0
        | cons a b => simp
      rw [foghornref13_Lines.l0, if_neg (by omega), if_pos (by omega), if_pos (by omega), if_pos (by omega), if_pos (by omega), Int.toNat_natCast, ex_drop, hu, linesT_one hn h0]
  | succ d ih =>
    intro k i fr acc u hi hk ha hf hu hn
    obtain ⟨k, rfl⟩ : ∃ q, k = q + 1 := ⟨k - 1, by omega⟩
    have hlt : i < s.data.toList.length := by omega
    rw [foghornref13_Lines.l0, if_pos (by omega), if_pos (by omega), bt_list hlt]
    have hd := drop_cons hlt
    by_cases hc : s.data.toList[i] = 10
    · rw [if_pos (by rw [hc]; rfl), if_pos (by omega), if_pos (by omega), if_pos (by omega), if_pos (by omega), Int.toNat_natCast, Int.toNat_natCast, w64s (by omega)]
      rw [ih k (i + 1) (i + 1) _ [] (by omega) (by omega) (by simp; omega) (by simp) (by simp) (by simp)]
      have e1 : s.extract fr i = tx u := by
        rw [ex_mid, hu, ← hf, Nat.add_sub_cancel_left, List.take_left]
      rw [e1, hu, hd, hc, linesT_cons hn]
      simp
    · rw [if_neg (by intro e; apply hc; apply UInt8.toNat_inj.1; have : (s.data.toList[i]).toNat = 10 := by omega
                     rw [this]; rfl), w64s (by omega)]
      exact ih k (i + 1) fr acc (u ++ [s.data.toList[i]]) (by omega) (by omega) (by omega) (by simp; omega) (by rw [hu, hd]; simp) (by simp; exact ⟨hn, fun e => hc e.symm⟩)
theorem lines13_f {s : ByteArray} (hs : s.size ≤ 100000) {k : Nat} (hk : s.size < k) : foghornref13_Lines.f k s = some (linesT s.data.toList) := by
  have := lines13_l s hs s.data.toList.length k 0 0 [] [] (by omega) (by rw [len_data]; omega) (by simp) rfl (by simp) (by simp)
  unfold foghornref13_Lines.f
  rw [n0, this]
  simp
end Go.Proofs.YtjfknmlchdifjaaGreatDoorQ.P
namespace Go.Proofs.YtjfknmlchdifjaaGreatDoor
open Go.RowKit Go.Proofs.YtjfknmlchdifjaaGreatDoorQ Go.Proofs.YtjfknmlchdifjaaGreatDoorQ.P Go.Proofs.YtjfknmlchdifjaaGreatDoorW.PrintWords Go.Proofs.YtjfknmlchdifjaaGreatDoorW.PrintLast Go.Proofs.YtjfknmlchdifjaaGreatDoorW.PrintMore
attribute [local go_sem high] ext_size ext_cell ext_frozen alloc_cell alloc_frozen
attribute [local go_sem] lt_more lt_suc drew_size drew_cell
theorem put4g {W : World} {H1 : Nat} {u1 u2 u3 u4 : Value} (hb : W.heap[H1]? = some (.cells #[u1, u2, u3, u4] 57 (0, 0))) (v1 v2 v3 v4 : Value) :
    ((((W.setCell ⟨H1, 0, none⟩ v1).setCell ⟨H1, 1, none⟩ v2).setCell ⟨H1, 2, none⟩ v3).setCell ⟨H1, 3, none⟩ v4).heap[H1]? = some (.cells #[v1, v2, v3, v4] 57 (0, 0)) :=
  blk_put (blk_put (blk_put (blk_put hb 0 v1 rfl) 1 v2 rfl) 2 v3 rfl) 3 v4 rfl
theorem CfA.put4g {W : World} {g H1 : Nat} {rv tv u1 u2 u3 u4 : Value} {c : Cfg} (h : CfA W g rv tv c) (hb : W.heap[H1]? = some (.cells #[u1, u2, u3, u4] 57 (0, 0))) (v1 v2 v3 v4 : Value) :
    CfA ((((W.setCell ⟨H1, 0, none⟩ v1).setCell ⟨H1, 1, none⟩ v2).setCell ⟨H1, 2, none⟩ v3).setCell ⟨H1, 3, none⟩ v4) g rv tv c :=
  (((h.set2 hb 0 _).set2 (blk_put hb 0 _ rfl) 1 _).set2 (blk_put (blk_put hb 0 _ rfl) 1 _ rfl) 2 _).set2 (blk_put (blk_put (blk_put hb 0 _ rfl) 1 _ rfl) 2 _ rfl) 3 _
theorem far4 {W : World} {H1 k : Nat} {o : Obj} (h : W.heap[k]? = some o) (hk : k ≠ H1) (v1 v2 v3 v4 : Value) : ((((W.setCell ⟨H1, 0, none⟩ v1).setCell ⟨H1, 1, none⟩ v2).setCell ⟨H1, 2, none⟩ v3).setCell ⟨H1, 3, none⟩ v4).heap[k]? = some o :=
  blk_set_far (blk_set_far (blk_set_far (blk_set_far h hk _) hk _) hk _) hk _
theorem CfA.lower {w : World} {g g' : Nat} {rv tv : Value} {c : Cfg} (h : CfA w g rv tv c) (hg : g' ≤ g) : CfA w g' rv tv c := ⟨Kd.R_lower h.rs hg, Kd.S_lower h.ts hg, h.rl, h.tl⟩
def RowO (A0 : Option Addr) (L : List ByteArray) (g H0 H1 : Nat) (w : World) : Prop := 0 < L.length → ∃ b o ob, A0 = some ⟨b, o, none⟩ ∧ b < g ∧ b ≠ H0 ∧ b ≠ H1 ∧ w.heap[b]? = some ob ∧ ∀ W : World, W.heap[b]? = some ob → ∀ j (hj : j < L.length), W.cell? ⟨b, o + j, none⟩ = some (.string L[j])
def PR (w : World) (g H0 H1 : Nat) (A0 : Option Addr) (L : List ByteArray) (res : Cfg × Int × Int) (k : Nat) (n : Int) (wr : World) : Prop :=
  ∃ (A1 A2 : Option Addr) (n1 c1 n2 c2 : Nat) (c : Cfg) (a : List UInt8), wr.heap[H1]? = some (.cells #[.slice A1 n1 c1, .slice A2 n2 c2, .int .i64 c.rep, .int .i64 c.beat] 57 (0, 0)) ∧
    wr.heap[H0]? = some (.cells #[.slice none 0 0, .slice none 0 0, .int .i64 0, .int .i64 0] 57 (0, 0)) ∧ CfA wr g (.slice A1 n1 c1) (.slice A2 n2 c2) c ∧ AhI a n ∧ Below w.heap.size w wr ∧ g ≤ wr.heap.size ∧ RowO A0 L g H0 H1 wr ∧
    res = linesS c a k (L.drop k)
theorem rlines_any (s : ByteArray) (W : World) (hs : s.size ≤ 100000) :
    Calls Tryz.prog 56 #[.string s] W fun e w' => ∃ v0_ : Value, e = .returned v0_ ∧ Kd.R Kd.string 9 w' W.heap.size (fun _ => True) v0_ (linesT s.data.toList) ∧ Below W.heap.size W w' :=
  foghornref13_Lines.calls (s.size + 1) s _ W (lines13_f hs (Nat.lt_succ_self _))
theorem linesT_sz {s : ByteArray} (hs : s.size ≤ 100000) : (∀ x ∈ linesT s.data.toList, x.size ≤ 100000) ∧ (linesT s.data.toList).length ≤ 100001 := by
  unfold linesT
  by_cases he : s.data.toList = []
  · rw [if_pos he]
    exact ⟨fun x hx => (by cases hx), by simp⟩
  · rw [if_neg he]
    have hl := len_data s
    have key : ∀ l : List UInt8, l.length ≤ 100000 → (∀ x ∈ (splitL 10 l).map tx, x.size ≤ 100000) ∧ ((splitL 10 l).map tx).length ≤ 100001 := by
      intro l h
      refine ⟨fun w hw => ?_, ?_⟩
      · obtain ⟨x, hx, rfl⟩ := List.mem_map.1 hw
        have := (splitL_mem 10 _ x hx).2
        have e := len_data (tx x)
        rw [tx_data] at e
        omega
      · have := splitL_len 10 l
        rw [List.length_map]
        omega
    by_cases hg : s.data.toList.getLast? = some 10
    · rw [if_pos hg]
      exact key _ (by rw [List.length_dropLast]; omega)
    · rw [if_neg hg]
      exact key _ (by omega)
set_option maxHeartbeats 8000000 in
set_option maxRecDepth 100000 in
theorem rparse13_any (a0 : ByteArray) (w : World) (h1 : a0.size ≤ 100000) :
    Calls Tryz.prog 26 #[.string a0] w fun e w' => ∃ v0_ v1_ : Value, e = .returned (.tuple #[.agg #[v0_, v1_, .int .i64 (cfgP a0.data.toList).1.rep, .int .i64 (cfgP a0.data.toList).1.beat], .int .i64 (cfgP a0.data.toList).2.1, .int .i64 (cfgP a0.data.toList).2.2]) ∧
      Kd.R k90 90 w' w.heap.size (fun _ => True) v0_ ((cfgP a0.data.toList).1.rs.map ofRcv) ∧ Kd.S k93 93 w' w.heap.size (fun _ => True) v1_ ((cfgP a0.data.toList).1.ts.map ofRte) ∧ Below w.heap.size w w' := by
  obtain ⟨L, hL⟩ : ∃ L, L = linesT a0.data.toList := ⟨_, rfl⟩
  obtain ⟨res, hres⟩ : ∃ res, res = cfgP a0.data.toList := ⟨_, rfl⟩
  have HLN := Lib.hid fun W => rlines_any a0 W h1
  have hz := linesT_sz h1
  rw [← hL] at HLN hz
  rw [← hres]
  have HRE := Lib.hid (show res = linesS Cfg.zero [] 0 L from by rw [hres, hL]; rfl)
  have HZ := Lib.hid hz
  have hLn := hz.2
  clear hres hL hz h1
  obtain ⟨w2, hw2⟩ : ∃ w2, w2 = ((w.alloc (.cells #[Value.slice none 0 0, Value.slice none 0 0, Value.int IntKind.i64 0, Value.int IntKind.i64 0] 57)).alloc (.cells #[Value.slice none 0 0, Value.slice none 0 0, Value.int IntKind.i64 0, Value.int IntKind.i64 0] 57)) := ⟨_, rfl⟩
  have K0 := Lib.hid (show w2.heap[w.heap.size]? = some (.cells #[Value.slice none 0 0, Value.slice none 0 0, Value.int IntKind.i64 0, Value.int IntKind.i64 0] 57 (0, 0)) from by rw [hw2]; exact blk_new1 _ _ _)
  have K1 := Lib.hid (show w2.heap[w.heap.size + 1]? = some (.cells #[Value.slice none 0 0, Value.slice none 0 0, Value.int IntKind.i64 0, Value.int IntKind.i64 0] 57 (0, 0)) from by rw [hw2]; exact blk_new2 _ _ _)
  have BW := Lib.hid (show Below w.heap.size w w2 from by rw [hw2]; exact (by repeat (first | exact Below.refl _ _ | apply bal | apply bext | apply bdr | apply bdrN | (refine bst ?_ _ (by simp only [ext_size, size_alloc, size_set]; omega)))))
  have HW2 := Lib.hid hw2
  clear hw2
  go_enter Tryz.func26, Tryz.ntmps26
  go_wp2_with fail
  rw [← HW2.out]
  refine (HLN.out _).mono ?_
  rintro e w1 ⟨v0, rfl, hR, hb⟩
  obtain ⟨A0, c0, rfl, hc0, hC⟩ := Kd.R_reads hR
  have B1 := Lib.hid (bel BW.out hb)
  have K0 := Lib.hid (blk_call hb K0.out)
  have K1 := Lib.hid (blk_call hb K1.out)
  have g0 := blk_lt K0.out
  have g1 := blk_lt K1.out
  have RO : Hid (RowO A0 L w1.heap.size w.heap.size (w.heap.size + 1) w1) := Lib.hid fun hpos => by
    obtain ⟨b, o, hA0, hbl, hcell⟩ := (strs_k hC hc0).at hpos
    subst hA0
    have hn0 := Kd.R_ne hR K0.out (by decide)
    have hn1 := Kd.R_ne hR K1.out (by decide)
    refine ⟨b, o, w1.heap[b], rfl, hbl, fun e => hn0 (by rw [e]; rfl), fun e => hn1 (by rw [e]; rfl), by rw [Array.getElem?_eq_getElem hbl], fun W hW j hj => ?_⟩
    rw [World.cell?_of_block (w := w1) (hW.trans (by rw [Array.getElem?_eq_getElem hbl]))]
    exact hcell j _ (strs_get L j hj)
  clear hR hC hb hc0 HW2 HLN
  go_wp2_with fail
  go_loopw [6, 18] (fun ah i wr => ∃ (k : Nat) (n : Int), k ≤ L.length ∧ i = .int .i64 k ∧ ah = .int .i64 n ∧ PR w w1.heap.size w.heap.size (w.heap.size + 1) A0 L res k n wr) (fun _ i _ => L.length - (intOf i).toNat)
  case atStart => exact ⟨0, 0, Nat.zero_le _, rfl, rfl, none, none, 0, 0, 0, 0, Cfg.zero, [], K1.out, K0.out, CfA.zero _ _, .inl ⟨rfl, rfl⟩, B1.out, Nat.le_refl _, RO.out, HRE.out⟩
  case round =>
    obtain ⟨k, n, hk, rfl, rfl, A1, A2, n1, c1, n2, c2, c, a, hb1, hb0, hcf, hah, hbel, hgs, hro, hln⟩ := hrel
    have HK1 := Lib.hid hb1
    have HK0 := Lib.hid hb0
    have HCF := Lib.hid hcf
    have HBL := Lib.hid hbel
    have HRO := Lib.hid hro
    have HLN := Lib.hid hln
    clear hb1 hb0 hcf hbel hro hln
    have q0 : wr.cell? ⟨w.heap.size + 1, 0, none⟩ = some (.slice A1 n1 c1) := blk_cell HK1.out rfl
    have q1 : wr.cell? ⟨w.heap.size + 1, 1, none⟩ = some (.slice A2 n2 c2) := blk_cell HK1.out rfl
    have q2 : wr.cell? ⟨w.heap.size + 1, 2, none⟩ = some (.int .i64 c.rep) := blk_cell HK1.out rfl
    have q3 : wr.cell? ⟨w.heap.size + 1, 3, none⟩ = some (.int .i64 c.beat) := blk_cell HK1.out rfl
    by_cases hlt : k < L.length
    · as_aux_lemma =>
      obtain ⟨b, o, ob, hA0, hbg, hbn0, hbn1, hbo, hbc⟩ := HRO.out (by omega)
      subst hA0
      obtain ⟨x, hx⟩ : ∃ x, x = L[k] := ⟨_, rfl⟩
      have ck : wr.cell? ⟨b, o + k, none⟩ = some (.string x) := by rw [hx]; exact hbc wr hbo k hlt
      have hxs : x.size ≤ 100000 := by rw [hx]; exact HZ.out.1 _ (List.getElem_mem _)
      have hdr : L.drop k = x :: L.drop (k + 1) := by rw [hx]; exact List.drop_eq_getElem_cons hlt
      have HX := Lib.hid (show res = if (lineS c a (wordsT 32 x)).2.2 = 0 then linesS (lineS c a (wordsT 32 x)).1 (lineS c a (wordsT 32 x)).2.1 (k + 1) (L.drop (k + 1)) else (Cfg.zero, k, (lineS c a (wordsT 32 x)).2.2) from by
        rw [HLN.out, hdr]
        rfl)
      have HC := Lib.hid (radd_any w1.heap.size _ _ c a n x wr HCF.out hgs hah hxs)
      have HBC := Lib.hid hbc
      have HBO := Lib.hid hbo
      clear hx hxs hdr hah hbc hbo HLN HRO
      generalize lineS c a (wordsT 32 x) = y at HX HC
      go_wp2_with fail
      refine HC.out.mono ?_
      rintro e W2 ⟨B1', B2', m1, d1, m2, d2, p, q, n', rfl, hb2, hk2, himp⟩
      have BL2 := Lib.hid (HBL.out.trans (bel_to (Nat.le_of_lt g0) hb2))
      have J0 := Lib.hid (blk_below hb2 g0 HK0.out)
      have J1 := Lib.hid (blk_below hb2 g1 HK1.out)
      have HBO2 := Lib.hid (blk_below hb2 hbg HBO.out)
      have HIM := Lib.hid himp
      have hg2 : w1.heap.size ≤ W2.heap.size := Nat.le_trans hgs hb2.size
      have hj0 := blk_lt J0.out
      have hj1 := blk_lt J1.out
      by_cases hy : y.2.2 = 0
      · have HX' := Lib.hid (HX.out.trans (if_pos hy))
        have HIM' := Lib.hid (HIM.out hy)
        have hye : (y.2.2 != 0) = false := by rw [hy]; rfl
        have p0 : W2.cell? ⟨w.heap.size + 1, 0, none⟩ = some (.slice A1 n1 c1) := blk_cell J1.out rfl
        have p1 : W2.cell? ⟨w.heap.size + 1, 1, none⟩ = some (.slice A2 n2 c2) := blk_cell J1.out rfl
        have p2 : W2.cell? ⟨w.heap.size + 1, 2, none⟩ = some (.int .i64 c.rep) := blk_cell J1.out rfl
        have p3 : W2.cell? ⟨w.heap.size + 1, 3, none⟩ = some (.int .i64 c.beat) := blk_cell J1.out rfl
        have f0 : W2.frozen? ⟨w.heap.size + 1, 0, none⟩ = false := blk_free J1.out 0
        have f1 : W2.frozen? ⟨w.heap.size + 1, 1, none⟩ = false := blk_free J1.out 1
        have f2 : W2.frozen? ⟨w.heap.size + 1, 2, none⟩ = false := blk_free J1.out 2
        have f3 : W2.frozen? ⟨w.heap.size + 1, 3, none⟩ = false := blk_free J1.out 3
        rw [hy]
        clear hb2 hk2 himp hy hye HX HIM q0 q1 q2 q3 ck
        go_wp2_with fail
        obtain ⟨hc, rfl, rfl, hah⟩ := HIM'.out
        refine ⟨⟨k + 1, n', by omega, by go_num, rfl, B1', B2', m1, d1, m2, d2, y.1, y.2.1, blk_alloc _ (put4g J1.out _ _ _ _), blk_alloc _ (far4 J0.out (Nat.ne_of_lt (Nat.lt_succ_self _)) _ _ _ _), (hc.put4g J1.out _ _ _ _).stay (bal (Below.refl _ _) _), hah, (below4 BL2.out (Nat.le_succ _) _ _ _ _).alloc (by simp only [size_set]; omega) _, by simp only [size_alloc, size_set]; omega, fun _ => ⟨b, o, ob, rfl, hbg, hbn0, hbn1, blk_alloc _ (far4 HBO2.out hbn1 _ _ _ _), HBC.out⟩, HX'.out.trans (by push_cast; rfl)⟩, by simp [intOf]; omega⟩
      · have HX' := Lib.hid (HX.out.trans (if_neg hy))
        have hye : (y.2.2 == 0) = false := by simpa using hy
        have hye2 : (y.2.2 != 0) = true := by simpa using hy
        have p0 : W2.cell? ⟨w.heap.size, 0, none⟩ = some (.slice none 0 0) := blk_cell J0.out rfl
        have p1 : W2.cell? ⟨w.heap.size, 1, none⟩ = some (.slice none 0 0) := blk_cell J0.out rfl
        have p2 : W2.cell? ⟨w.heap.size, 2, none⟩ = some (.int .i64 0) := blk_cell J0.out rfl
        have p3 : W2.cell? ⟨w.heap.size, 3, none⟩ = some (.int .i64 0) := blk_cell J0.out rfl
        have f0 : W2.frozen? ⟨w.heap.size, 0, none⟩ = false := blk_free J0.out 0
        have f1 : W2.frozen? ⟨w.heap.size, 1, none⟩ = false := blk_free J0.out 1
        have f2 : W2.frozen? ⟨w.heap.size, 2, none⟩ = false := blk_free J0.out 2
        have f3 : W2.frozen? ⟨w.heap.size, 3, none⟩ = false := blk_free J0.out 3
        clear hb2 hk2 himp HX HIM q0 q1 q2 q3 ck
        go_wp2_with fail
        have B7 := blk_alloc (.cells #[.slice B1' m1 d1, .slice B2' m2 d2, .int .i64 p, .int .i64 q] 57) (put4 (W := W2) J0.out (.slice none 0 0) (.slice none 0 0) (.int .i64 0) (.int .i64 0))
        refine bodyPost_ret (results_ctt rfl _ _ w.heap.size 57 #[.slice none 0 0, .slice none 0 0, .int .i64 0, .int .i64 0] (0, 0) _ rfl B7 Tryz.underlying57 rfl (by kernel_rfl)) rfl ?_
        rw [HX'.out]
        exact ⟨.slice none 0 0, .slice none 0 0, rfl, Kd.R_nil _ _ _ _ _, Kd.S_nil _ _ _ _ _, (below4 BL2.out (Nat.le_refl _) _ _ _ _).alloc (by simp only [size_set]; omega) _⟩
    · as_aux_lemma =>
      obtain rfl : k = L.length := by omega
      have HX := Lib.hid (show res = if a = beatT then (c, 0, 0) else (Cfg.zero, (L.length : Int), 12) from by
        rw [HLN.out, List.drop_length]
        rfl)
      have p0 : wr.cell? ⟨w.heap.size, 0, none⟩ = some (.slice none 0 0) := blk_cell HK0.out rfl
      have p1 : wr.cell? ⟨w.heap.size, 1, none⟩ = some (.slice none 0 0) := blk_cell HK0.out rfl
      have p2 : wr.cell? ⟨w.heap.size, 2, none⟩ = some (.int .i64 0) := blk_cell HK0.out rfl
      have p3 : wr.cell? ⟨w.heap.size, 3, none⟩ = some (.int .i64 0) := blk_cell HK0.out rfl
      have f0 : wr.frozen? ⟨w.heap.size, 0, none⟩ = false := blk_free HK0.out 0
      have f1 : wr.frozen? ⟨w.heap.size, 1, none⟩ = false := blk_free HK0.out 1
      have f2 : wr.frozen? ⟨w.heap.size, 2, none⟩ = false := blk_free HK0.out 2
      have f3 : wr.frozen? ⟨w.heap.size, 3, none⟩ = false := blk_free HK0.out 3
      have hgl := Nat.lt_of_lt_of_le g0 hgs
      have hgm := Nat.lt_of_lt_of_le g1 hgs
      by_cases hn : n = 4
      · subst hn
        have ha : a = beatT := by
          rcases hah with ⟨_, h⟩ | ⟨_, h⟩ | ⟨_, h⟩ | ⟨_, h⟩ | ⟨h, _⟩
          · cases h
          · cases h
          · cases h
          · cases h
          · exact h
        have HX' := Lib.hid (HX.out.trans (if_pos ha))
        clear hah ha hlt HX HLN HRO
        go_wp2_with fail
        refine bodyPost_ret (results_ctt rfl _ _ w.heap.size 57 #[.slice A1 n1 c1, .slice A2 n2 c2, .int .i64 c.rep, .int .i64 c.beat] (0, 0) _ rfl (put4 HK0.out _ _ _ _) Tryz.underlying57 rfl (by kernel_rfl)) rfl ?_
        rw [HX'.out]
        have hfin := (HCF.out.put4 HK0.out (.slice A1 n1 c1) (.slice A2 n2 c2) (.int .i64 c.rep) (.int .i64 c.beat)).lower (Nat.le_of_lt g0)
        exact ⟨_, _, rfl, hfin.rs, hfin.ts, below4 HBL.out (Nat.le_refl _) _ _ _ _⟩
      · have ha : a ≠ beatT := by
          rcases hah with ⟨h, _⟩ | ⟨h, _⟩ | ⟨h, _⟩ | ⟨h, _⟩ | ⟨_, h⟩
          · rw [h]; decide
          · rw [h]; decide
          · rw [h]; decide
          · rw [h]; decide
          · exact absurd h hn
        have HX' := Lib.hid (HX.out.trans (if_neg ha))
        have hn1 : (n == 4) = false := by simpa using hn
        have hn2 : (n != 4) = true := by simpa using hn
        clear hah ha hlt HX HLN HRO hn
        go_wp2_with fail
        refine bodyPost_ret (results_ctt rfl _ _ w.heap.size 57 #[.slice none 0 0, .slice none 0 0, .int .i64 0, .int .i64 0] (0, 0) _ rfl (put4 HK0.out _ _ _ _) Tryz.underlying57 rfl (by kernel_rfl)) rfl ?_
        rw [HX'.out]
        exact ⟨.slice none 0 0, .slice none 0 0, rfl, Kd.R_nil _ _ _ _ _, Kd.S_nil _ _ _ _ _, below4 HBL.out (Nat.le_refl _) _ _ _ _⟩
end Go.Proofs.YtjfknmlchdifjaaGreatDoor
namespace Go.Proofs.YtjfknmlchdifjaaGreatDoorQ.P
open Go.RowKit Go.Proofs.YtjfknmlchdifjaaGreatDoorW.PrintWords Go.Proofs.YtjfknmlchdifjaaGreatDoor
def foghornref13_Parse.f (a0 : ByteArray) : Option ((List (S90)) × (List (S93)) × Int × Int × Int × Int) :=
  if a0.size ≤ 100000 then some ((cfgP a0.data.toList).1.rs.map ofRcv, (cfgP a0.data.toList).1.ts.map ofRte, (cfgP a0.data.toList).1.rep, (cfgP a0.data.toList).1.beat, (cfgP a0.data.toList).2.1, (cfgP a0.data.toList).2.2) else none
theorem foghornref13_Parse.calls (a0 : ByteArray) (r1 : List (S90)) (r2 : List (S93)) (r3 : Int) (r4 : Int) (r5 : Int) (r6 : Int) (w : World) (h : foghornref13_Parse.f a0 = some (r1, r2, r3, r4, r5, r6)) :
    Calls Tryz.prog 26 #[.string a0] w fun e w' => ∃ v0_ v1_ : Value, e = .returned (.tuple #[.agg #[v0_, v1_, .int .i64 r3, .int .i64 r4], .int .i64 r5, .int .i64 r6]) ∧ Kd.R k90 90 w' w.heap.size (fun _ => True) v0_ r1 ∧ Kd.S k93 93 w' w.heap.size (fun _ => True) v1_ r2 ∧ Below w.heap.size w w' := by
  obtain ⟨h1, h2⟩ := if_someP h
  simp only [Prod.mk.injEq] at h2
  obtain ⟨rfl, rfl, rfl, rfl, rfl, rfl⟩ := h2
  exact rparse13_any a0 w h1
end Go.Proofs.YtjfknmlchdifjaaGreatDoorQ.P
