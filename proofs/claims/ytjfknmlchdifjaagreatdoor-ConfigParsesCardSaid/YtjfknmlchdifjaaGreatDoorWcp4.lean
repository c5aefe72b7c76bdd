/- Part 4 of a proof: contracts and plain laws of what the statement reaches. No condition. -/
import Derived.Test.YtjfknmlchdifjaaGreatDoorWcp1
import Derived.Test.YtjfknmlchdifjaaGreatDoorWcp2
import Derived.Test.YtjfknmlchdifjaaGreatDoorWcp3
set_option linter.unusedVariables false
set_option linter.unusedSimpArgs false
namespace Go.Proofs.YtjfknmlchdifjaaGreatDoorQ.P
open Go.RowKit Go.Proofs.YtjfknmlchdifjaaGreatDoorW.PrintWords Go.Proofs.YtjfknmlchdifjaaGreatDoorW.PrintLast Go.Proofs.YtjfknmlchdifjaaGreatDoorW.PrintMore
attribute [local go_sem] max2_int min2_int max_two min_two max_three min_three max_four min_four
attribute [local go_sem high] eqA32
def foghornref10_Asked.l0 : Nat → List (S32) → List (S32) → Int → Int → Option (Bool)
 | 0, _, _, _, _ => none
 | k + 1, x0, x1, x12, x13 => if x13 < x12 then (if 0 ≤ x13 then (if x13 < (x0.length : Int) then (if x13 < (x1.length : Int) then (if (!(((rd_T32 x0 x13).f0) == ((rd_T32 x1 x13).f0)) || (!((((rd_T32 x0 x13).f1).toList) == (((rd_T32 x1 x13).f1).toList)) || (!((((rd_T32 x0 x13).f2).toList) == (((rd_T32 x1 x13).f2).toList))))) = true then (some false) else (foghornref10_Asked.l0 k x0 x1 x12 (wrap64 (x13 + 1)))) else (none)) else (none)) else (none)) else (some true)
def foghornref10_Asked.f (k : Nat) (l0 : List (S32)) (l1 : List (S32)) : Option (Bool) := if (l0.length : Int) = (l1.length : Int) then (foghornref10_Asked.l0 k l0 l1 (l0.length : Int) 0) else (some false)
set_option maxHeartbeats 8000000 in
set_option maxRecDepth 100000 in
theorem foghornref10_Asked.calls (k : Nat) (A0 : Option Addr) (c0 : Nat) (l0 : List (S32)) (A1 : Option Addr) (c1 : Nat) (l1 : List (S32)) (r : Bool) (w : World) (hr0 : Kd.C k32 w A0 l0.length l0) (hc0 : l0.length ≤ c0) (hr1 : Kd.C k32 w A1 l1.length l1) (hc1 : l1.length ≤ c1) (h : foghornref10_Asked.f k l0 l1 = some r) :
  Calls Tryz.prog 58 #[.slice A0 l0.length c0, .slice A1 l1.length c1] w fun e w' => e = .returned (.bool r) ∧ Drawn0 w w' := by
 have hu32 := Tryz.underlying32
 have HR0 := aA hr0
 have HC0 := aA hc0
 clear hr0 hc0
 have HR1 := aA hr1
 have HC1 := aA hc1
 clear hr1 hc1
 have H : (if (l0.length : Int) = (l1.length : Int) then (foghornref10_Asked.l0 k l0 l1 (l0.length : Int) 0) else (some false)) = some r := h
 clear h
 by_cases c3 : (l0.length : Int) = (l1.length : Int)
 ·rw [if_pos c3] at H
  have c3b0 : ((l0.length : Int) == (l1.length : Int)) = true := beq_iff_eq.mpr c3
  have c3b1 : ((l0.length : Int) != (l1.length : Int)) = false := bne_eq_false_iff_eq.mpr c3
  have c3b2 : (l0.length == l1.length) = true := by first | simpa using c3 | (simp at c3 ⊢; omega)
  clear c3
  have H' := aA H
  clear H
  go_enter Tryz.func58, Tryz.ntmps58
  go_wp2
  repeat (go_quiet (fail); try go_wp2)
  go_loopg [13] k (fun kq v13 w' => ∃ (x13_1 : Int), v13 = .int .i64 x13_1 ∧ Aside0 (foghornref10_Asked.l0 kq l0 l1 (l0.length : Int) x13_1 = some r) ∧ Aside0 (kq ≤ k) ∧ Drawn0 w w')
  case atStart => exact ⟨(0), (by first | rfl | (simp; done) | (simp [*]; done)), H', ⟨Nat.le_refl _⟩, by repeat (first | exact Drawn0.refl _ | apply Drawn0.step)⟩
  case round =>
   clear H'
   try clear c1
   try clear p2
   try clear c3
   try clear c3b0
   try clear c3b1
   try clear c3b2
   obtain ⟨x13_1, rfl, HA, HK1, ⟨m1, rfl⟩⟩ := hrel
   cases gk with
   | zero => exact absurd HA.out (by simp [foghornref10_Asked.l0])
   | succ k1 =>
    have H := HA.out
    clear HA
    simp only [foghornref10_Asked.l0] at H
    by_cases c4 : x13_1 < (l0.length : Int)
    ·rw [if_pos c4] at H
     have c4b0 : decide (x13_1 < (l0.length : Int)) = true := decide_eq_true c4
     clear c4
     by_cases c5 : 0 ≤ x13_1
     ·rw [if_pos c5] at H
      have c5b0 : decide (0 ≤ x13_1) = true := decide_eq_true c5
      clear c5
      by_cases c6 : x13_1 < (l0.length : Int)
      ·rw [if_pos c6] at H
       have c6b0 : decide (x13_1 < (l0.length : Int)) = true := decide_eq_true c6
       clear c6
       by_cases c7 : x13_1 < (l1.length : Int)
       ·rw [if_pos c7] at H
        have c7b0 : decide (x13_1 < (l1.length : Int)) = true := decide_eq_true c7
        clear c7
        by_cases c8 : (!(((rd_T32 l0 x13_1).f0) == ((rd_T32 l1 x13_1).f0)) || (!((((rd_T32 l0 x13_1).f1).toList) == (((rd_T32 l1 x13_1).f1).toList)) || (!((((rd_T32 l0 x13_1).f2).toList) == (((rd_T32 l1 x13_1).f2).toList))))) = true
        ·rw [if_pos c8] at H
         have c8b0 : (!(((rd_T32 l0 x13_1).f0) == ((rd_T32 l1 x13_1).f0)) || (!((((rd_T32 l0 x13_1).f1).toList) == (((rd_T32 l1 x13_1).f1).toList)) || (!((((rd_T32 l0 x13_1).f2).toList) == (((rd_T32 l1 x13_1).f2).toList))))) = true := c8
         clear c8
         obtain rfl := Option.some.inj H
         have p114 : 0 ≤ (x13_1 : Int) := of_decide_eq_true (by first | (with_reducible assumption) | assumption)
         have q114 : x13_1 < (l0.length : Int) := of_decide_eq_true (by first | (with_reducible assumption) | assumption)
         obtain ⟨ad114, e114, hx114_0, hx114_1, hx114_2⟩ := at_T32 HR0.out x13_1 p114 q114
         cases e114
         replace p114 := eq_true p114
         replace q114 := eq_true q114
         have p115 : 0 ≤ (x13_1 : Int) := of_decide_eq_true (by first | (with_reducible assumption) | assumption)
         have q115 : x13_1 < (l1.length : Int) := of_decide_eq_true (by first | (with_reducible assumption) | assumption)
         obtain ⟨ad115, e115, hx115_0, hx115_1, hx115_2⟩ := at_T32 HR1.out x13_1 p115 q115
         cases e115
         replace p115 := eq_true p115
         replace q115 := eq_true q115
         go_wp2
         repeat (go_quiet (fail); try go_wp2)
         go_ret
         exact ⟨by first | rfl | (simp; done) | (simp [*]; done), by repeat (first | exact Drawn0.refl _ | apply Drawn0.step)⟩
        ·rw [if_neg c8] at H
         have c8b0 : (!(((rd_T32 l0 x13_1).f0) == ((rd_T32 l1 x13_1).f0)) || (!((((rd_T32 l0 x13_1).f1).toList) == (((rd_T32 l1 x13_1).f1).toList)) || (!((((rd_T32 l0 x13_1).f2).toList) == (((rd_T32 l1 x13_1).f2).toList))))) = false := by simpa using c8
         clear c8
         have H' := aA H
         clear H
         have p114 : 0 ≤ (x13_1 : Int) := of_decide_eq_true (by first | (with_reducible assumption) | assumption)
         have q114 : x13_1 < (l0.length : Int) := of_decide_eq_true (by first | (with_reducible assumption) | assumption)
         obtain ⟨ad114, e114, hx114_0, hx114_1, hx114_2⟩ := at_T32 HR0.out x13_1 p114 q114
         cases e114
         replace p114 := eq_true p114
         replace q114 := eq_true q114
         have p115 : 0 ≤ (x13_1 : Int) := of_decide_eq_true (by first | (with_reducible assumption) | assumption)
         have q115 : x13_1 < (l1.length : Int) := of_decide_eq_true (by first | (with_reducible assumption) | assumption)
         obtain ⟨ad115, e115, hx115_0, hx115_1, hx115_2⟩ := at_T32 HR1.out x13_1 p115 q115
         cases e115
         replace p115 := eq_true p115
         replace q115 := eq_true q115
         go_wp2
         repeat (go_quiet (fail); try go_wp2)
         go_roundg k1
         case measure => have := HK1.out; omega
         case rel => exact ⟨(wrap64 (x13_1 + 1)), (by first | rfl | (simp; done) | (simp [*]; done)), H', ⟨by have := HK1.out; omega⟩, by repeat (first | exact Drawn0.refl _ | apply Drawn0.step)⟩
       ·rw [if_neg c7] at H
        exact absurd H (by simp)
      ·rw [if_neg c6] at H
       exact absurd H (by simp)
     ·rw [if_neg c5] at H
      exact absurd H (by simp)
    ·rw [if_neg c4] at H
     have c4b0 : decide (x13_1 < (l0.length : Int)) = false := decide_eq_false c4
     clear c4
     obtain rfl := Option.some.inj H
     go_wp2
     repeat (go_quiet (fail); try go_wp2)
     go_ret
     exact ⟨by first | rfl | (simp; done) | (simp [*]; done), by repeat (first | exact Drawn0.refl _ | apply Drawn0.step)⟩
 ·rw [if_neg c3] at H
  have c3b0 : ((l0.length : Int) == (l1.length : Int)) = false := beq_eq_false_iff_ne.mpr c3
  have c3b1 : ((l0.length : Int) != (l1.length : Int)) = true := bne_iff_ne.mpr c3
  have c3b2 : (l0.length == l1.length) = false := by first | simpa using c3 | (simp at c3 ⊢; omega)
  obtain rfl := Option.some.inj H
  go_enter Tryz.func58, Tryz.ntmps58
  go_wp2
  repeat (go_quiet (fail); try go_wp2)
  go_ret
  exact ⟨by first | rfl | (simp; done) | (simp [*]; done), by repeat (first | exact Drawn0.refl _ | apply Drawn0.step)⟩
end Go.Proofs.YtjfknmlchdifjaaGreatDoorQ.P
namespace Go.Proofs.YtjfknmlchdifjaaGreatDoorQ.P
open Go.RowKit Go.Proofs.YtjfknmlchdifjaaGreatDoorW.PrintWords Go.Proofs.YtjfknmlchdifjaaGreatDoorW.PrintLast Go.Proofs.YtjfknmlchdifjaaGreatDoorW.PrintMore
attribute [local go_sem] max2_int min2_int max_two min_two max_three min_three max_four min_four
attribute [local go_sem high] eqA90
mutual
def foghornref13_Same.j0 : Nat → Bool → List (S90) → List (S93) → Int → Int → List (S90) → List (S93) → Int → Int → Option (Bool)
 | 0, _, _, _, _, _, _, _, _, _ => none
 | k + 1, x39, x117000, x117001, x117002, x117003, x118000, x118001, x118002, x118003 => if x39 = true then (some false) else (foghornref13_Same.l0 k (x117000.length : Int) 0 x117000 x117001 x117002 x117003 x118000 x118001 x118002 x118003)
def foghornref13_Same.l0 : Nat → Int → Int → List (S90) → List (S93) → Int → Int → List (S90) → List (S93) → Int → Int → Option (Bool)
 | 0, _, _, _, _, _, _, _, _, _, _ => none
 | k + 1, x42, x43, x117000, x117001, x117002, x117003, x118000, x118001, x118002, x118003 => if x43 < x42 then (if 0 ≤ x43 then (if x43 < (x117000.length : Int) then (if x43 < (x118000.length : Int) then (if (!((((rd_T90 x117000 x43).f0).toList) == (((rd_T90 x118000 x43).f0).toList)) || ((!(((rd_T90 x117000 x43).f1.f0) == ((rd_T90 x118000 x43).f1.f0)) || (!(((rd_T90 x117000 x43).f1.f1) == ((rd_T90 x118000 x43).f1.f1)) || (!(((rd_T90 x117000 x43).f1.f2) == ((rd_T90 x118000 x43).f1.f2))))) || (!(((rd_T90 x117000 x43).f2) == ((rd_T90 x118000 x43).f2)) || (!(((rd_T90 x117000 x43).f3) == ((rd_T90 x118000 x43).f3)) || (!(((rd_T90 x117000 x43).f4) == ((rd_T90 x118000 x43).f4)) || (!(((rd_T90 x117000 x43).f5) == ((rd_T90 x118000 x43).f5)) || (!(((rd_T90 x117000 x43).f6) == ((rd_T90 x118000 x43).f6))))))))) = true then (some false) else (foghornref13_Same.l0 k x42 (wrap64 (x43 + 1)) x117000 x117001 x117002 x117003 x118000 x118001 x118002 x118003)) else (none)) else (none)) else (none)) else (foghornref13_Same.l1 k x117001 (x117001.length : Int) 0 x118000 x118001 x118002 x118003)
def foghornref13_Same.l1 : Nat → List (S93) → Int → Int → List (S90) → List (S93) → Int → Int → Option (Bool)
 | 0, _, _, _, _, _, _, _ => none
 | k + 1, x59, x60, x61, x118000, x118001, x118002, x118003 => if x61 < x60 then (if 0 ≤ x61 then (if x61 < (x59.length : Int) then (if x61 < (x118001.length : Int) then ((foghornref10_Asked.f k ((rd_T93 x59 x61).f1) ((rd_T93 x118001 x61).f1)).bind fun t124 => (if t124 = true then (foghornref13_Same.j3 k x59 x60 x61 ((((rd_T93 x59 x61).f0).length : Int) != (((rd_T93 x118001 x61).f0).length : Int)) x118000 x118001 x118002 x118003 ((rd_T93 x59 x61).f0) ((rd_T93 x59 x61).f1) ((rd_T93 x118001 x61).f0) ((rd_T93 x118001 x61).f1)) else (foghornref13_Same.j3 k x59 x60 x61 true x118000 x118001 x118002 x118003 ((rd_T93 x59 x61).f0) ((rd_T93 x59 x61).f1) ((rd_T93 x118001 x61).f0) ((rd_T93 x118001 x61).f1)))) else (none)) else (none)) else (none)) else (some true)
def foghornref13_Same.j3 : Nat → List (S93) → Int → Int → Bool → List (S90) → List (S93) → Int → Int → List Int → List (S32) → List Int → List (S32) → Option (Bool)
 | 0, _, _, _, _, _, _, _, _, _, _, _, _ => none
 | k + 1, x59, x60, x61, x85, x118000, x118001, x118002, x118003, x122000, x122001, x124000, x124001 => if x85 = true then (some false) else (foghornref13_Same.l2 k x59 x60 x61 (x122000.length : Int) 0 x118000 x118001 x118002 x118003 x122000 x122001 x124000 x124001)
def foghornref13_Same.l2 : Nat → List (S93) → Int → Int → Int → Int → List (S90) → List (S93) → Int → Int → List Int → List (S32) → List Int → List (S32) → Option (Bool)
 | 0, _, _, _, _, _, _, _, _, _, _, _, _, _ => none
 | k + 1, x59, x60, x61, x88, x89, x118000, x118001, x118002, x118003, x122000, x122001, x124000, x124001 => if x89 < x88 then (if 0 ≤ x89 then (if x89 < (x122000.length : Int) then (if x89 < (x124000.length : Int) then (if (rd x122000 x89) = (rd x124000 x89) then (foghornref13_Same.l2 k x59 x60 x61 x88 (wrap64 (x89 + 1)) x118000 x118001 x118002 x118003 x122000 x122001 x124000 x124001) else (some false)) else (none)) else (none)) else (none)) else (foghornref13_Same.l1 k x59 x60 (wrap64 (x61 + 1)) x118000 x118001 x118002 x118003)
end
def foghornref13_Same.f (k : Nat) (l0_0 : List (S90)) (l0_1 : List (S93)) (a0_2 : Int) (a0_3 : Int) (l1_0 : List (S90)) (l1_1 : List (S93)) (a1_2 : Int) (a1_3 : Int) : Option (Bool) := if (l0_0.length : Int) = (l1_0.length : Int) then (if (l0_1.length : Int) = (l1_1.length : Int) then (if a0_2 = a1_2 then (foghornref13_Same.j0 k (a0_3 != a1_3) l0_0 l0_1 a0_2 a0_3 l1_0 l1_1 a1_2 a1_3) else (foghornref13_Same.j0 k true l0_0 l0_1 a0_2 a0_3 l1_0 l1_1 a1_2 a1_3)) else (foghornref13_Same.j0 k true l0_0 l0_1 a0_2 a0_3 l1_0 l1_1 a1_2 a1_3)) else (foghornref13_Same.j0 k true l0_0 l0_1 a0_2 a0_3 l1_0 l1_1 a1_2 a1_3)
set_option maxHeartbeats 8000000 in
set_option maxRecDepth 100000 in
theorem foghornref13_Same.calls (k : Nat) (A0_0 : Option Addr) (c0_0 : Nat) (l0_0 : List (S90)) (A0_1 : Option Addr) (c0_1 : Nat) (l0_1 : List (S93)) (a0_2 : Int) (a0_3 : Int) (A1_0 : Option Addr) (c1_0 : Nat) (l1_0 : List (S90)) (A1_1 : Option Addr) (c1_1 : Nat) (l1_1 : List (S93)) (a1_2 : Int) (a1_3 : Int) (r : Bool) (w : World) (hr0_0 : Kd.C k90 w A0_0 l0_0.length l0_0) (hc0_0 : l0_0.length ≤ c0_0) (hr0_1 : Kd.C k93 w A0_1 l0_1.length l0_1) (hc0_1 : l0_1.length ≤ c0_1) (hr1_0 : Kd.C k90 w A1_0 l1_0.length l1_0) (hc1_0 : l1_0.length ≤ c1_0) (hr1_1 : Kd.C k93 w A1_1 l1_1.length l1_1) (hc1_1 : l1_1.length ≤ c1_1) (h : foghornref13_Same.f k l0_0 l0_1 a0_2 a0_3 l1_0 l1_1 a1_2 a1_3 = some r) :
  Calls Tryz.prog 28 #[.agg #[.slice A0_0 l0_0.length c0_0, .slice A0_1 l0_1.length c0_1, .int .i64 a0_2, .int .i64 a0_3], .agg #[.slice A1_0 l1_0.length c1_0, .slice A1_1 l1_1.length c1_1, .int .i64 a1_2, .int .i64 a1_3]] w fun e w' => e = .returned (.bool r) ∧ Below w.heap.size w w' := by
 have hu57 := Tryz.underlying57
 have hu90 := Tryz.underlying90
 have hu93 := Tryz.underlying93
 have HR0_0 := aA hr0_0
 have HC0_0 := aA hc0_0
 clear hr0_0 hc0_0
 have HR0_1 := aA hr0_1
 have HC0_1 := aA hc0_1
 clear hr0_1 hc0_1
 have HR1_0 := aA hr1_0
 have HC1_0 := aA hc1_0
 clear hr1_0 hc1_0
 have HR1_1 := aA hr1_1
 have HC1_1 := aA hc1_1
 clear hr1_1 hc1_1
 have HB := aA (Below.refl w.heap.size w)
 have H : (if (l0_0.length : Int) = (l1_0.length : Int) then (if (l0_1.length : Int) = (l1_1.length : Int) then (if a0_2 = a1_2 then (foghornref13_Same.j0 k (a0_3 != a1_3) l0_0 l0_1 a0_2 a0_3 l1_0 l1_1 a1_2 a1_3) else (foghornref13_Same.j0 k true l0_0 l0_1 a0_2 a0_3 l1_0 l1_1 a1_2 a1_3)) else (foghornref13_Same.j0 k true l0_0 l0_1 a0_2 a0_3 l1_0 l1_1 a1_2 a1_3)) else (foghornref13_Same.j0 k true l0_0 l0_1 a0_2 a0_3 l1_0 l1_1 a1_2 a1_3)) = some r := h
 clear h
 have HC3 := aA H
 clear H
 go_enter Tryz.func28, Tryz.ntmps28
 go_upto_region 1 with (first | ((with_reducible refine gate_dst (N := 2) rfl ?_); (try (refine gate_guard (by rfl) ?_; dsimp only)); refine box_event ?hg (N := 2) ?hd (cs := #[.slice A0_0 l0_0.length c0_0, .slice A0_1 l0_1.length c0_1, .int .i64 a0_2, .int .i64 a0_3]) (t := 57) ?hr ?_; (case hd => rfl); (case hg => rfl); (case hr => first | (go_simp; done) | (go_simp; rfl)); intro gb116 hg w4 hbox hb; have n0_ := aA (below_step mB hb); have n1_ := aA (hbox); have n2_ := aA ((bZ hg mB)); have n3_ := aA ((bZ hg mB)); clear HB; have HB := n0_; have BK116 := n1_; have GW116 := n2_; have GE116 := n3_; clear n0_ n1_ n2_ n3_ hb hbox hg) | ((with_reducible refine gate_dst (N := 3) rfl ?_); (try (refine gate_guard (by rfl) ?_; dsimp only)); refine box_event ?hg (N := 3) ?hd (cs := #[.slice A1_0 l1_0.length c1_0, .slice A1_1 l1_1.length c1_1, .int .i64 a1_2, .int .i64 a1_3]) (t := 57) ?hr ?_; (case hd => rfl); (case hg => rfl); (case hr => first | (go_simp; done) | (go_simp; rfl)); intro gb117 hg w5 hbox hb; have n0_ := aA (bB BK116.out hb); have n1_ := aA (below_step (mD1 GE116.out) hb); have n2_ := aA (hbox); have n3_ := aA ((bZ hg (mD1 GE116.out))); have n4_ := aA ((bZ hg (mD1 GE116.out))); have n5_ := aA ((bL hg BK116.out)); have n6_ := aA ((bG hg BK116.out)); clear BK116 HB; have BK116 := n0_; have HB := n1_; have BK117 := n2_; have GW117 := n3_; have GE117 := n4_; have NB116_117 := n5_; have NB117_116 := n6_; clear n0_ n1_ n2_ n3_ n4_ n5_ n6_ hb hbox hg))
 repeat (go_quiet (first | ((with_reducible refine gate_dst (N := 2) rfl ?_); (try (refine gate_guard (by rfl) ?_; dsimp only)); refine box_event ?hg (N := 2) ?hd (cs := #[.slice A0_0 l0_0.length c0_0, .slice A0_1 l0_1.length c0_1, .int .i64 a0_2, .int .i64 a0_3]) (t := 57) ?hr ?_; (case hd => rfl); (case hg => rfl); (case hr => first | (go_simp; done) | (go_simp; rfl)); intro gb116 hg w4 hbox hb; have n0_ := aA (below_step mB hb); have n1_ := aA (hbox); have n2_ := aA ((bZ hg mB)); have n3_ := aA ((bZ hg mB)); clear HB; have HB := n0_; have BK116 := n1_; have GW116 := n2_; have GE116 := n3_; clear n0_ n1_ n2_ n3_ hb hbox hg) | ((with_reducible refine gate_dst (N := 3) rfl ?_); (try (refine gate_guard (by rfl) ?_; dsimp only)); refine box_event ?hg (N := 3) ?hd (cs := #[.slice A1_0 l1_0.length c1_0, .slice A1_1 l1_1.length c1_1, .int .i64 a1_2, .int .i64 a1_3]) (t := 57) ?hr ?_; (case hd => rfl); (case hg => rfl); (case hr => first | (go_simp; done) | (go_simp; rfl)); intro gb117 hg w5 hbox hb; have n0_ := aA (bB BK116.out hb); have n1_ := aA (below_step (mD1 GE116.out) hb); have n2_ := aA (hbox); have n3_ := aA ((bZ hg (mD1 GE116.out))); have n4_ := aA ((bZ hg (mD1 GE116.out))); have n5_ := aA ((bL hg BK116.out)); have n6_ := aA ((bG hg BK116.out)); clear BK116 HB; have BK116 := n0_; have HB := n1_; have BK117 := n2_; have GW117 := n3_; have GE117 := n4_; have NB116_117 := n5_; have NB117_116 := n6_; clear n0_ n1_ n2_ n3_ n4_ n5_ n6_ hb hbox hg)); go_upto_region 1 with (first | ((with_reducible refine gate_dst (N := 2) rfl ?_); (try (refine gate_guard (by rfl) ?_; dsimp only)); refine box_event ?hg (N := 2) ?hd (cs := #[.slice A0_0 l0_0.length c0_0, .slice A0_1 l0_1.length c0_1, .int .i64 a0_2, .int .i64 a0_3]) (t := 57) ?hr ?_; (case hd => rfl); (case hg => rfl); (case hr => first | (go_simp; done) | (go_simp; rfl)); intro gb116 hg w4 hbox hb; have n0_ := aA (below_step mB hb); have n1_ := aA (hbox); have n2_ := aA ((bZ hg mB)); have n3_ := aA ((bZ hg mB)); clear HB; have HB := n0_; have BK116 := n1_; have GW116 := n2_; have GE116 := n3_; clear n0_ n1_ n2_ n3_ hb hbox hg) | ((with_reducible refine gate_dst (N := 3) rfl ?_); (try (refine gate_guard (by rfl) ?_; dsimp only)); refine box_event ?hg (N := 3) ?hd (cs := #[.slice A1_0 l1_0.length c1_0, .slice A1_1 l1_1.length c1_1, .int .i64 a1_2, .int .i64 a1_3]) (t := 57) ?hr ?_; (case hd => rfl); (case hg => rfl); (case hr => first | (go_simp; done) | (go_simp; rfl)); intro gb117 hg w5 hbox hb; have n0_ := aA (bB BK116.out hb); have n1_ := aA (below_step (mD1 GE116.out) hb); have n2_ := aA (hbox); have n3_ := aA ((bZ hg (mD1 GE116.out))); have n4_ := aA ((bZ hg (mD1 GE116.out))); have n5_ := aA ((bL hg BK116.out)); have n6_ := aA ((bG hg BK116.out)); clear BK116 HB; have BK116 := n0_; have HB := n1_; have BK117 := n2_; have GW117 := n3_; have GE117 := n4_; have NB116_117 := n5_; have NB117_116 := n6_; clear n0_ n1_ n2_ n3_ n4_ n5_ n6_ hb hbox hg)))
 (try simp only [Act.put, List.setIfInBounds_toArray, List.set_cons_zero, List.set_cons_succ])
 go_cut [39] (fun v39 wc => ∃ (kq : Nat) (x39_2 : Bool), v39 = .bool x39_2 ∧ Aside0 (foghornref13_Same.j0 kq x39_2 l0_0 l0_1 a0_2 a0_3 l1_0 l1_1 a1_2 a1_3 = some r) ∧ Aside0 (kq ≤ k) ∧ Aside0 (wc.heap[gb116]? = some (.cells #[(.slice A0_0 l0_0.length c0_0), (.slice A0_1 l0_1.length c0_1), .int .i64 a0_2, .int .i64 a0_3] 57 (0, 0))) ∧ Aside0 (wc.heap[gb117]? = some (.cells #[(.slice A1_0 l1_0.length c1_0), (.slice A1_1 l1_1.length c1_1), .int .i64 a1_2, .int .i64 a1_3] 57 (0, 0))) ∧ Aside0 (Below w.heap.size w wc))
 case first =>
  have H := HC3.out
  clear HC3
  by_cases c6 : (l0_0.length : Int) = (l1_0.length : Int)
  ·rw [if_pos c6] at H
   have c6b0 : ((l0_0.length : Int) == (l1_0.length : Int)) = true := beq_iff_eq.mpr c6
   have c6b1 : ((l0_0.length : Int) != (l1_0.length : Int)) = false := bne_eq_false_iff_eq.mpr c6
   have c6b2 : (l0_0.length == l1_0.length) = true := by first | simpa using c6 | (simp at c6 ⊢; omega)
   clear c6
   (first | rw [c6b0] | (simp only [i64_w, i32_w]; rw [c6b0]) | skip)
   by_cases c7 : (l0_1.length : Int) = (l1_1.length : Int)
   ·rw [if_pos c7] at H
    have c7b0 : ((l0_1.length : Int) == (l1_1.length : Int)) = true := beq_iff_eq.mpr c7
    have c7b1 : ((l0_1.length : Int) != (l1_1.length : Int)) = false := bne_eq_false_iff_eq.mpr c7
    have c7b2 : (l0_1.length == l1_1.length) = true := by first | simpa using c7 | (simp at c7 ⊢; omega)
    clear c7
    by_cases c8 : a0_2 = a1_2
    ·rw [if_pos c8] at H
     have c8b0 : (a0_2 == a1_2) = true := beq_iff_eq.mpr c8
     have c8b1 : (a0_2 != a1_2) = false := bne_eq_false_iff_eq.mpr c8
     clear c8
     have H' := aA H
     clear H
     have hnb9 := NB116_117.out
     have hnc9 := NB117_116.out
     obtain ⟨hcz10_0, hcz10_1, hcz10_2, hcz10_3⟩ := bC4 BK116.out
     obtain ⟨hfz10_0, hfz10_1, hfz10_2, hfz10_3⟩ := bF4 BK116.out
     obtain ⟨hcz11_0, hcz11_1, hcz11_2, hcz11_3⟩ := bC4 BK117.out
     obtain ⟨hfz11_0, hfz11_1, hfz11_2, hfz11_3⟩ := bF4 BK117.out
     go_wp2
     repeat (go_quiet (fail); try go_wp2)
     go_meet
     case rel => exact ⟨_, ((a0_3 != a1_3)), (by first | rfl | (simp; done) | (simp [*]; done)), H', ⟨by first | omega | exact Nat.le_refl _⟩, ⟨by (with_reducible repeat (first | refine blk_drewN ?_ _ | refine blk_drew ?_ | refine blk_alloc ?_ _)); exact BK116.out⟩, ⟨by (with_reducible repeat (first | refine blk_drewN ?_ _ | refine blk_drew ?_ | refine blk_alloc ?_ _)); exact BK117.out⟩, ⟨by repeat (first | (with_reducible first | exact HB.out | apply below_alloc | apply pw_below_drewN | apply below_drew1 | refine below_set ?_ GE116.out | refine below_set ?_ GE117.out) | exact HB.out)⟩⟩
    ·rw [if_neg c8] at H
     have c8b0 : (a0_2 == a1_2) = false := beq_eq_false_iff_ne.mpr c8
     have c8b1 : (a0_2 != a1_2) = true := bne_iff_ne.mpr c8
     have H' := aA H
     clear H
     have hnb12 := NB116_117.out
     have hnc12 := NB117_116.out
     obtain ⟨hcz13_0, hcz13_1, hcz13_2, hcz13_3⟩ := bC4 BK116.out
     obtain ⟨hfz13_0, hfz13_1, hfz13_2, hfz13_3⟩ := bF4 BK116.out
     obtain ⟨hcz14_0, hcz14_1, hcz14_2, hcz14_3⟩ := bC4 BK117.out
     obtain ⟨hfz14_0, hfz14_1, hfz14_2, hfz14_3⟩ := bF4 BK117.out
     go_wp2
     repeat (go_quiet (fail); try go_wp2)
     go_meet
     case rel => exact ⟨_, (true), (by first | rfl | (simp; done) | (simp [*]; done)), H', ⟨by first | omega | exact Nat.le_refl _⟩, ⟨by (with_reducible repeat (first | refine blk_drewN ?_ _ | refine blk_drew ?_ | refine blk_alloc ?_ _)); exact BK116.out⟩, ⟨by (with_reducible repeat (first | refine blk_drewN ?_ _ | refine blk_drew ?_ | refine blk_alloc ?_ _)); exact BK117.out⟩, ⟨by repeat (first | (with_reducible first | exact HB.out | apply below_alloc | apply pw_below_drewN | apply below_drew1 | refine below_set ?_ GE116.out | refine below_set ?_ GE117.out) | exact HB.out)⟩⟩
   ·rw [if_neg c7] at H
    have c7b0 : ((l0_1.length : Int) == (l1_1.length : Int)) = false := beq_eq_false_iff_ne.mpr c7
    have c7b1 : ((l0_1.length : Int) != (l1_1.length : Int)) = true := bne_iff_ne.mpr c7
    have c7b2 : (l0_1.length == l1_1.length) = false := by first | simpa using c7 | (simp at c7 ⊢; omega)
    have H' := aA H
    clear H
    have hnb15 := NB116_117.out
    have hnc15 := NB117_116.out
    obtain ⟨hcz16_0, hcz16_1, hcz16_2, hcz16_3⟩ := bC4 BK116.out
    obtain ⟨hfz16_0, hfz16_1, hfz16_2, hfz16_3⟩ := bF4 BK116.out
    obtain ⟨hcz17_0, hcz17_1, hcz17_2, hcz17_3⟩ := bC4 BK117.out
    obtain ⟨hfz17_0, hfz17_1, hfz17_2, hfz17_3⟩ := bF4 BK117.out
    go_wp2
    repeat (go_quiet (fail); try go_wp2)
    go_meet
    case rel => exact ⟨_, (true), (by first | rfl | (simp; done) | (simp [*]; done)), H', ⟨by first | omega | exact Nat.le_refl _⟩, ⟨by (with_reducible repeat (first | refine blk_drewN ?_ _ | refine blk_drew ?_ | refine blk_alloc ?_ _)); exact BK116.out⟩, ⟨by (with_reducible repeat (first | refine blk_drewN ?_ _ | refine blk_drew ?_ | refine blk_alloc ?_ _)); exact BK117.out⟩, ⟨by repeat (first | (with_reducible first | exact HB.out | apply below_alloc | apply pw_below_drewN | apply below_drew1 | refine below_set ?_ GE116.out | refine below_set ?_ GE117.out) | exact HB.out)⟩⟩
  ·rw [if_neg c6] at H
   have c6b0 : ((l0_0.length : Int) == (l1_0.length : Int)) = false := beq_eq_false_iff_ne.mpr c6
   have c6b1 : ((l0_0.length : Int) != (l1_0.length : Int)) = true := bne_iff_ne.mpr c6
   have c6b2 : (l0_0.length == l1_0.length) = false := by first | simpa using c6 | (simp at c6 ⊢; omega)
   (first | rw [c6b0] | (simp only [i64_w, i32_w]; rw [c6b0]) | skip)
   have H' := aA H
   clear H
   have hnb18 := NB116_117.out
   have hnc18 := NB117_116.out
   obtain ⟨hcz19_0, hcz19_1, hcz19_2, hcz19_3⟩ := bC4 BK116.out
   obtain ⟨hfz19_0, hfz19_1, hfz19_2, hfz19_3⟩ := bF4 BK116.out
   obtain ⟨hcz20_0, hcz20_1, hcz20_2, hcz20_3⟩ := bC4 BK117.out
   obtain ⟨hfz20_0, hfz20_1, hfz20_2, hfz20_3⟩ := bF4 BK117.out
   go_wp2
   repeat (go_quiet (fail); try go_wp2)
   go_meet
   case rel => exact ⟨_, (true), (by first | rfl | (simp; done) | (simp [*]; done)), H', ⟨by first | omega | exact Nat.le_refl _⟩, ⟨by (with_reducible repeat (first | refine blk_drewN ?_ _ | refine blk_drew ?_ | refine blk_alloc ?_ _)); exact BK116.out⟩, ⟨by (with_reducible repeat (first | refine blk_drewN ?_ _ | refine blk_drew ?_ | refine blk_alloc ?_ _)); exact BK117.out⟩, ⟨by repeat (first | (with_reducible first | exact HB.out | apply below_alloc | apply pw_below_drewN | apply below_drew1 | refine below_set ?_ GE116.out | refine below_set ?_ GE117.out) | exact HB.out)⟩⟩
 case rest =>
  clear HC3
  try clear c1
  try clear c2
  try clear p2
  try clear c6
  try clear c6b0
  try clear c6b1
  try clear c6b2
  try clear c7
  try clear c7b0
  try clear c7b1
  try clear c7b2
  try clear c8
  try clear c8b0
  try clear c8b1
  try clear c9
  try clear c12
  try clear c15
  try clear c18
  try clear hcz10_0 hcz10_1 hcz10_2 hcz10_3
  try clear hcz11_0 hcz11_1 hcz11_2 hcz11_3
  try clear hcz13_0 hcz13_1 hcz13_2 hcz13_3
  try clear hcz14_0 hcz14_1 hcz14_2 hcz14_3
  try clear hcz16_0 hcz16_1 hcz16_2 hcz16_3
  try clear hcz17_0 hcz17_1 hcz17_2 hcz17_3
  try clear hcz19_0 hcz19_1 hcz19_2 hcz19_3
  try clear hcz20_0 hcz20_1 hcz20_2 hcz20_3
  try clear hfz10_0 hfz10_1 hfz10_2 hfz10_3
  try clear hfz11_0 hfz11_1 hfz11_2 hfz11_3
  try clear hfz13_0 hfz13_1 hfz13_2 hfz13_3
  try clear hfz14_0 hfz14_1 hfz14_2 hfz14_3
  try clear hfz16_0 hfz16_1 hfz16_2 hfz16_3
  try clear hfz17_0 hfz17_1 hfz17_2 hfz17_3
  try clear hfz19_0 hfz19_1 hfz19_2 hfz19_3
  try clear hfz20_0 hfz20_1 hfz20_2 hfz20_3
  obtain ⟨kq, x39_2, rfl, HA, HJ2, BK116, BK117, HB⟩ := hcut
  cases kq with
  | zero => exact absurd HA.out (by simp [foghornref13_Same.j0])
  | succ kj2 =>
   have H := HA.out
   clear HA
   simp only [foghornref13_Same.j0] at H
   by_cases c21 : x39_2 = true
   ·subst c21
    have H1 : (some false) = some r := by rw [if_pos rfl] at H; exact H
    clear H
    have H := H1
    clear H1
    obtain rfl := Option.some.inj H
    go_wp2
    repeat (go_quiet (fail); try go_wp2)
    go_ret
    exact ⟨by first | rfl | (simp [errW_none, errW_some] <;> rfl) | (simp [*, errW_none, errW_some] <;> rfl), by repeat (first | (with_reducible first | exact HB.out | apply below_alloc | apply pw_below_drewN | apply below_drew1 | refine below_set ?_ GE116.out | refine below_set ?_ GE117.out) | exact HB.out)⟩
   ·replace c21 := Bool.eq_false_iff.mpr c21
    subst c21
    have H1 : (foghornref13_Same.l0 kj2 (l0_0.length : Int) 0 l0_0 l0_1 a0_2 a0_3 l1_0 l1_1 a1_2 a1_3) = some r := by rw [if_neg (show ¬ (false = true) by decide)] at H; exact H
    clear H
    have H := H1
    clear H1
    have H' := aA H
    clear H
    have hnb22 := NB116_117.out
    have hnc22 := NB117_116.out
    obtain ⟨hcz23_0, hcz23_1, hcz23_2, hcz23_3⟩ := bC4 BK116.out
    obtain ⟨hfz23_0, hfz23_1, hfz23_2, hfz23_3⟩ := bF4 BK116.out
    go_wp2
    repeat (go_quiet (fail); try go_wp2)
    go_loopg [43] kj2 (fun kq v43 w' => ∃ (x43_2 : Int), v43 = .int .i64 x43_2 ∧ Aside0 (foghornref13_Same.l0 kq (l0_0.length : Int) x43_2 l0_0 l0_1 a0_2 a0_3 l1_0 l1_1 a1_2 a1_3 = some r) ∧ Aside0 (kq ≤ kj2) ∧ Aside0 (w'.heap[gb116]? = some (.cells #[(.slice A0_0 l0_0.length c0_0), (.slice A0_1 l0_1.length c0_1), .int .i64 a0_2, .int .i64 a0_3] 57 (0, 0))) ∧ Aside0 (w'.heap[gb117]? = some (.cells #[(.slice A1_0 l1_0.length c1_0), (.slice A1_1 l1_1.length c1_1), .int .i64 a1_2, .int .i64 a1_3] 57 (0, 0))) ∧ Aside0 (Below w.heap.size w w'))
    case atStart => exact ⟨(0), (by first | rfl | (simp; done) | (simp [*]; done)), H', ⟨Nat.le_refl _⟩, ⟨by (with_reducible repeat (first | refine blk_drewN ?_ _ | refine blk_drew ?_ | refine blk_alloc ?_ _)); exact BK116.out⟩, ⟨by (with_reducible repeat (first | refine blk_drewN ?_ _ | refine blk_drew ?_ | refine blk_alloc ?_ _)); exact BK117.out⟩, ⟨by repeat (first | (with_reducible first | exact HB.out | apply below_alloc | apply pw_below_drewN | apply below_drew1 | refine below_set ?_ GE116.out | refine below_set ?_ GE117.out) | exact HB.out)⟩⟩
    case round =>
     clear H'
     try clear c1
     try clear c2
     try clear p2
     try clear c6
     try clear c6b0
     try clear c6b1
     try clear c6b2
     try clear c7
     try clear c7b0
     try clear c7b1
     try clear c7b2
     try clear c8
     try clear c8b0
     try clear c8b1
     try clear c9
     try clear c12
     try clear c15
     try clear c18
     try clear c21
     try clear c22
     try clear hcz10_0 hcz10_1 hcz10_2 hcz10_3
     try clear hcz11_0 hcz11_1 hcz11_2 hcz11_3
     try clear hcz13_0 hcz13_1 hcz13_2 hcz13_3
     try clear hcz14_0 hcz14_1 hcz14_2 hcz14_3
     try clear hcz16_0 hcz16_1 hcz16_2 hcz16_3
     try clear hcz17_0 hcz17_1 hcz17_2 hcz17_3
     try clear hcz19_0 hcz19_1 hcz19_2 hcz19_3
     try clear hcz20_0 hcz20_1 hcz20_2 hcz20_3
     try clear hcz23_0 hcz23_1 hcz23_2 hcz23_3
     try clear hfz10_0 hfz10_1 hfz10_2 hfz10_3
     try clear hfz11_0 hfz11_1 hfz11_2 hfz11_3
     try clear hfz13_0 hfz13_1 hfz13_2 hfz13_3
     try clear hfz14_0 hfz14_1 hfz14_2 hfz14_3
     try clear hfz16_0 hfz16_1 hfz16_2 hfz16_3
     try clear hfz17_0 hfz17_1 hfz17_2 hfz17_3
     try clear hfz19_0 hfz19_1 hfz19_2 hfz19_3
     try clear hfz20_0 hfz20_1 hfz20_2 hfz20_3
     try clear hfz23_0 hfz23_1 hfz23_2 hfz23_3
     try clear p2
     obtain ⟨x43_2, rfl, HA, HK2, BK116, BK117, HB⟩ := hrel
     cases gk with
     | zero => exact absurd HA.out (by simp [foghornref13_Same.l0])
     | succ k2 =>
      have H := HA.out
      clear HA
      simp only [foghornref13_Same.l0] at H
      by_cases c24 : x43_2 < (l0_0.length : Int)
      ·rw [if_pos c24] at H
       have c24b0 : decide (x43_2 < (l0_0.length : Int)) = true := decide_eq_true c24
       clear c24
       by_cases c25 : 0 ≤ x43_2
       ·rw [if_pos c25] at H
        have c25b0 : decide (0 ≤ x43_2) = true := decide_eq_true c25
        clear c25
        by_cases c26 : x43_2 < (l0_0.length : Int)
        ·rw [if_pos c26] at H
         have c26b0 : decide (x43_2 < (l0_0.length : Int)) = true := decide_eq_true c26
         clear c26
         by_cases c27 : x43_2 < (l1_0.length : Int)
         ·rw [if_pos c27] at H
          have c27b0 : decide (x43_2 < (l1_0.length : Int)) = true := decide_eq_true c27
          clear c27
          by_cases c28 : (!((((rd_T90 l0_0 x43_2).f0).toList) == (((rd_T90 l1_0 x43_2).f0).toList)) || ((!(((rd_T90 l0_0 x43_2).f1.f0) == ((rd_T90 l1_0 x43_2).f1.f0)) || (!(((rd_T90 l0_0 x43_2).f1.f1) == ((rd_T90 l1_0 x43_2).f1.f1)) || (!(((rd_T90 l0_0 x43_2).f1.f2) == ((rd_T90 l1_0 x43_2).f1.f2))))) || (!(((rd_T90 l0_0 x43_2).f2) == ((rd_T90 l1_0 x43_2).f2)) || (!(((rd_T90 l0_0 x43_2).f3) == ((rd_T90 l1_0 x43_2).f3)) || (!(((rd_T90 l0_0 x43_2).f4) == ((rd_T90 l1_0 x43_2).f4)) || (!(((rd_T90 l0_0 x43_2).f5) == ((rd_T90 l1_0 x43_2).f5)) || (!(((rd_T90 l0_0 x43_2).f6) == ((rd_T90 l1_0 x43_2).f6))))))))) = true
          ·rw [if_pos c28] at H
           have c28b0 : (!((((rd_T90 l0_0 x43_2).f0).toList) == (((rd_T90 l1_0 x43_2).f0).toList)) || ((!(((rd_T90 l0_0 x43_2).f1.f0) == ((rd_T90 l1_0 x43_2).f1.f0)) || (!(((rd_T90 l0_0 x43_2).f1.f1) == ((rd_T90 l1_0 x43_2).f1.f1)) || (!(((rd_T90 l0_0 x43_2).f1.f2) == ((rd_T90 l1_0 x43_2).f1.f2))))) || (!(((rd_T90 l0_0 x43_2).f2) == ((rd_T90 l1_0 x43_2).f2)) || (!(((rd_T90 l0_0 x43_2).f3) == ((rd_T90 l1_0 x43_2).f3)) || (!(((rd_T90 l0_0 x43_2).f4) == ((rd_T90 l1_0 x43_2).f4)) || (!(((rd_T90 l0_0 x43_2).f5) == ((rd_T90 l1_0 x43_2).f5)) || (!(((rd_T90 l0_0 x43_2).f6) == ((rd_T90 l1_0 x43_2).f6))))))))) = true := c28
           clear c28
           obtain rfl := Option.some.inj H
           have hnb29 := NB116_117.out
           have hnc29 := NB117_116.out
           obtain ⟨hcz30_0, hcz30_1, hcz30_2, hcz30_3⟩ := bC4 BK116.out
           obtain ⟨hfz30_0, hfz30_1, hfz30_2, hfz30_3⟩ := bF4 BK116.out
           have p118 : 0 ≤ (x43_2 : Int) := of_decide_eq_true (by first | (with_reducible assumption) | assumption)
           have q118 : x43_2 < (l0_0.length : Int) := of_decide_eq_true (by first | (with_reducible assumption) | assumption)
           obtain ⟨ad118, e118, hx118_0, hx118_1, hx118_2, hx118_3, hx118_4, hx118_5, hx118_6, hx118_7, hx118_8⟩ := at_T90 HR0_0.out x43_2 p118 q118
           cases e118
           replace hx118_0 := (HB.out.cell (World.block_lt_of_cell? w _ hx118_0)).trans hx118_0
           replace hx118_1 := (HB.out.cell (World.block_lt_of_cell? w _ hx118_1)).trans hx118_1
           replace hx118_2 := (HB.out.cell (World.block_lt_of_cell? w _ hx118_2)).trans hx118_2
           replace hx118_3 := (HB.out.cell (World.block_lt_of_cell? w _ hx118_3)).trans hx118_3
           replace hx118_4 := (HB.out.cell (World.block_lt_of_cell? w _ hx118_4)).trans hx118_4
           replace hx118_5 := (HB.out.cell (World.block_lt_of_cell? w _ hx118_5)).trans hx118_5
           replace hx118_6 := (HB.out.cell (World.block_lt_of_cell? w _ hx118_6)).trans hx118_6
           replace hx118_7 := (HB.out.cell (World.block_lt_of_cell? w _ hx118_7)).trans hx118_7
           replace hx118_8 := (HB.out.cell (World.block_lt_of_cell? w _ hx118_8)).trans hx118_8
           replace p118 := eq_true p118
           replace q118 := eq_true q118
           obtain ⟨hcz31_0, hcz31_1, hcz31_2, hcz31_3⟩ := bC4 BK117.out
           obtain ⟨hfz31_0, hfz31_1, hfz31_2, hfz31_3⟩ := bF4 BK117.out
           have p119 : 0 ≤ (x43_2 : Int) := of_decide_eq_true (by first | (with_reducible assumption) | assumption)
           have q119 : x43_2 < (l1_0.length : Int) := of_decide_eq_true (by first | (with_reducible assumption) | assumption)
           obtain ⟨ad119, e119, hx119_0, hx119_1, hx119_2, hx119_3, hx119_4, hx119_5, hx119_6, hx119_7, hx119_8⟩ := at_T90 HR1_0.out x43_2 p119 q119
           cases e119
           replace hx119_0 := (HB.out.cell (World.block_lt_of_cell? w _ hx119_0)).trans hx119_0
           replace hx119_1 := (HB.out.cell (World.block_lt_of_cell? w _ hx119_1)).trans hx119_1
           replace hx119_2 := (HB.out.cell (World.block_lt_of_cell? w _ hx119_2)).trans hx119_2
           replace hx119_3 := (HB.out.cell (World.block_lt_of_cell? w _ hx119_3)).trans hx119_3
           replace hx119_4 := (HB.out.cell (World.block_lt_of_cell? w _ hx119_4)).trans hx119_4
           replace hx119_5 := (HB.out.cell (World.block_lt_of_cell? w _ hx119_5)).trans hx119_5
           replace hx119_6 := (HB.out.cell (World.block_lt_of_cell? w _ hx119_6)).trans hx119_6
           replace hx119_7 := (HB.out.cell (World.block_lt_of_cell? w _ hx119_7)).trans hx119_7
           replace hx119_8 := (HB.out.cell (World.block_lt_of_cell? w _ hx119_8)).trans hx119_8
           replace p119 := eq_true p119
           replace q119 := eq_true q119
           go_wp2
           repeat (go_quiet (fail); try go_wp2)
           go_ret
           exact ⟨by first | rfl | (simp [errW_none, errW_some] <;> rfl) | (simp [*, errW_none, errW_some] <;> rfl), by repeat (first | (with_reducible first | exact HB.out | apply below_alloc | apply pw_below_drewN | apply below_drew1 | refine below_set ?_ GE116.out | refine below_set ?_ GE117.out) | exact HB.out)⟩
          ·rw [if_neg c28] at H
           have c28b0 : (!((((rd_T90 l0_0 x43_2).f0).toList) == (((rd_T90 l1_0 x43_2).f0).toList)) || ((!(((rd_T90 l0_0 x43_2).f1.f0) == ((rd_T90 l1_0 x43_2).f1.f0)) || (!(((rd_T90 l0_0 x43_2).f1.f1) == ((rd_T90 l1_0 x43_2).f1.f1)) || (!(((rd_T90 l0_0 x43_2).f1.f2) == ((rd_T90 l1_0 x43_2).f1.f2))))) || (!(((rd_T90 l0_0 x43_2).f2) == ((rd_T90 l1_0 x43_2).f2)) || (!(((rd_T90 l0_0 x43_2).f3) == ((rd_T90 l1_0 x43_2).f3)) || (!(((rd_T90 l0_0 x43_2).f4) == ((rd_T90 l1_0 x43_2).f4)) || (!(((rd_T90 l0_0 x43_2).f5) == ((rd_T90 l1_0 x43_2).f5)) || (!(((rd_T90 l0_0 x43_2).f6) == ((rd_T90 l1_0 x43_2).f6))))))))) = false := by simpa using c28
           clear c28
           have H' := aA H
           clear H
           have hnb32 := NB116_117.out
           have hnc32 := NB117_116.out
           obtain ⟨hcz33_0, hcz33_1, hcz33_2, hcz33_3⟩ := bC4 BK116.out
           obtain ⟨hfz33_0, hfz33_1, hfz33_2, hfz33_3⟩ := bF4 BK116.out
           have p118 : 0 ≤ (x43_2 : Int) := of_decide_eq_true (by first | (with_reducible assumption) | assumption)
           have q118 : x43_2 < (l0_0.length : Int) := of_decide_eq_true (by first | (with_reducible assumption) | assumption)
           obtain ⟨ad118, e118, hx118_0, hx118_1, hx118_2, hx118_3, hx118_4, hx118_5, hx118_6, hx118_7, hx118_8⟩ := at_T90 HR0_0.out x43_2 p118 q118
           cases e118
           replace hx118_0 := (HB.out.cell (World.block_lt_of_cell? w _ hx118_0)).trans hx118_0
           replace hx118_1 := (HB.out.cell (World.block_lt_of_cell? w _ hx118_1)).trans hx118_1
           replace hx118_2 := (HB.out.cell (World.block_lt_of_cell? w _ hx118_2)).trans hx118_2
           replace hx118_3 := (HB.out.cell (World.block_lt_of_cell? w _ hx118_3)).trans hx118_3
           replace hx118_4 := (HB.out.cell (World.block_lt_of_cell? w _ hx118_4)).trans hx118_4
           replace hx118_5 := (HB.out.cell (World.block_lt_of_cell? w _ hx118_5)).trans hx118_5
           replace hx118_6 := (HB.out.cell (World.block_lt_of_cell? w _ hx118_6)).trans hx118_6
           replace hx118_7 := (HB.out.cell (World.block_lt_of_cell? w _ hx118_7)).trans hx118_7
           replace hx118_8 := (HB.out.cell (World.block_lt_of_cell? w _ hx118_8)).trans hx118_8
           replace p118 := eq_true p118
           replace q118 := eq_true q118
           obtain ⟨hcz34_0, hcz34_1, hcz34_2, hcz34_3⟩ := bC4 BK117.out
           obtain ⟨hfz34_0, hfz34_1, hfz34_2, hfz34_3⟩ := bF4 BK117.out
           have p119 : 0 ≤ (x43_2 : Int) := of_decide_eq_true (by first | (with_reducible assumption) | assumption)
           have q119 : x43_2 < (l1_0.length : Int) := of_decide_eq_true (by first | (with_reducible assumption) | assumption)
           obtain ⟨ad119, e119, hx119_0, hx119_1, hx119_2, hx119_3, hx119_4, hx119_5, hx119_6, hx119_7, hx119_8⟩ := at_T90 HR1_0.out x43_2 p119 q119
           cases e119
           replace hx119_0 := (HB.out.cell (World.block_lt_of_cell? w _ hx119_0)).trans hx119_0
           replace hx119_1 := (HB.out.cell (World.block_lt_of_cell? w _ hx119_1)).trans hx119_1
           replace hx119_2 := (HB.out.cell (World.block_lt_of_cell? w _ hx119_2)).trans hx119_2
           replace hx119_3 := (HB.out.cell (World.block_lt_of_cell? w _ hx119_3)).trans hx119_3
           replace hx119_4 := (HB.out.cell (World.block_lt_of_cell? w _ hx119_4)).trans hx119_4
           replace hx119_5 := (HB.out.cell (World.block_lt_of_cell? w _ hx119_5)).trans hx119_5
           replace hx119_6 := (HB.out.cell (World.block_lt_of_cell? w _ hx119_6)).trans hx119_6
           replace hx119_7 := (HB.out.cell (World.block_lt_of_cell? w _ hx119_7)).trans hx119_7
           replace hx119_8 := (HB.out.cell (World.block_lt_of_cell? w _ hx119_8)).trans hx119_8
           replace p119 := eq_true p119
           replace q119 := eq_true q119
           go_wp2
           repeat (go_quiet (fail); try go_wp2)
           go_roundg k2
           case measure => have := HJ2.out; have := HK2.out; omega
           case rel => exact ⟨(wrap64 (x43_2 + 1)), (by first | rfl | (simp; done) | (simp [*]; done)), H', ⟨by have := HJ2.out; have := HK2.out; omega⟩, ⟨by (with_reducible repeat (first | refine blk_drewN ?_ _ | refine blk_drew ?_ | refine blk_alloc ?_ _)); exact BK116.out⟩, ⟨by (with_reducible repeat (first | refine blk_drewN ?_ _ | refine blk_drew ?_ | refine blk_alloc ?_ _)); exact BK117.out⟩, ⟨by repeat (first | (with_reducible first | exact HB.out | apply below_alloc | apply pw_below_drewN | apply below_drew1 | refine below_set ?_ GE116.out | refine below_set ?_ GE117.out) | exact HB.out)⟩⟩
         ·rw [if_neg c27] at H
          exact absurd H (by simp)
        ·rw [if_neg c26] at H
         exact absurd H (by simp)
       ·rw [if_neg c25] at H
        exact absurd H (by simp)
      ·rw [if_neg c24] at H
       have c24b0 : decide (x43_2 < (l0_0.length : Int)) = false := decide_eq_false c24
       clear c24
       have H' := aA H
       clear H
       have hnb35 := NB116_117.out
       have hnc35 := NB117_116.out
       obtain ⟨hcz36_0, hcz36_1, hcz36_2, hcz36_3⟩ := bC4 BK116.out
       obtain ⟨hfz36_0, hfz36_1, hfz36_2, hfz36_3⟩ := bF4 BK116.out
       go_wp2
       repeat (go_quiet (fail); try go_wp2)
       go_loopg [61] k2 (fun kq v61 w' => ∃ (x61_3 : Int), v61 = .int .i64 x61_3 ∧ Aside0 (foghornref13_Same.l1 kq l0_1 (l0_1.length : Int) x61_3 l1_0 l1_1 a1_2 a1_3 = some r) ∧ Aside0 (kq ≤ k2) ∧ Aside0 (w'.heap[gb116]? = some (.cells #[(.slice A0_0 l0_0.length c0_0), (.slice A0_1 l0_1.length c0_1), .int .i64 a0_2, .int .i64 a0_3] 57 (0, 0))) ∧ Aside0 (w'.heap[gb117]? = some (.cells #[(.slice A1_0 l1_0.length c1_0), (.slice A1_1 l1_1.length c1_1), .int .i64 a1_2, .int .i64 a1_3] 57 (0, 0))) ∧ Aside0 (Below w.heap.size w w'))
       case atStart => exact ⟨(0), (by first | rfl | (simp; done) | (simp [*]; done)), H', ⟨Nat.le_refl _⟩, ⟨by (with_reducible repeat (first | refine blk_drewN ?_ _ | refine blk_drew ?_ | refine blk_alloc ?_ _)); exact BK116.out⟩, ⟨by (with_reducible repeat (first | refine blk_drewN ?_ _ | refine blk_drew ?_ | refine blk_alloc ?_ _)); exact BK117.out⟩, ⟨by repeat (first | (with_reducible first | exact HB.out | apply below_alloc | apply pw_below_drewN | apply below_drew1 | refine below_set ?_ GE116.out | refine below_set ?_ GE117.out) | exact HB.out)⟩⟩
       case round =>
        clear H'
        try clear c1
        try clear p1
        try clear q1
        try clear hx1
        try clear c2
        try clear p2
        try clear c3
        try clear c6
        try clear c6b0
        try clear c6b1
        try clear c6b2
        try clear p6
        try clear c7
        try clear c7b0
        try clear c7b1
        try clear c7b2
        try clear c8
        try clear c8b0
        try clear c8b1
        try clear c9
        try clear p11
        try clear q11
        try clear hx11
        try clear c12
        try clear c15
        try clear c18
        try clear c21
        try clear c22
        try clear c24
        try clear c24b0
        try clear c25
        try clear c25b0
        try clear c26
        try clear c26b0
        try clear c27
        try clear c27b0
        try clear c28
        try clear c28b0
        try clear c29
        try clear c32
        try clear c35
        try clear hcz10_0 hcz10_1 hcz10_2 hcz10_3
        try clear hcz11_0 hcz11_1 hcz11_2 hcz11_3
        try clear hcz13_0 hcz13_1 hcz13_2 hcz13_3
        try clear hcz14_0 hcz14_1 hcz14_2 hcz14_3
        try clear hcz16_0 hcz16_1 hcz16_2 hcz16_3
        try clear hcz17_0 hcz17_1 hcz17_2 hcz17_3
        try clear hcz19_0 hcz19_1 hcz19_2 hcz19_3
        try clear hcz20_0 hcz20_1 hcz20_2 hcz20_3
        try clear hcz23_0 hcz23_1 hcz23_2 hcz23_3
        try clear hcz30_0 hcz30_1 hcz30_2 hcz30_3
        try clear hcz31_0 hcz31_1 hcz31_2 hcz31_3
        try clear hcz33_0 hcz33_1 hcz33_2 hcz33_3
        try clear hcz34_0 hcz34_1 hcz34_2 hcz34_3
        try clear hcz36_0 hcz36_1 hcz36_2 hcz36_3
        try clear hfz10_0 hfz10_1 hfz10_2 hfz10_3
        try clear hfz11_0 hfz11_1 hfz11_2 hfz11_3
        try clear hfz13_0 hfz13_1 hfz13_2 hfz13_3
        try clear hfz14_0 hfz14_1 hfz14_2 hfz14_3
        try clear hfz16_0 hfz16_1 hfz16_2 hfz16_3
        try clear hfz17_0 hfz17_1 hfz17_2 hfz17_3
        try clear hfz19_0 hfz19_1 hfz19_2 hfz19_3
        try clear hfz20_0 hfz20_1 hfz20_2 hfz20_3
        try clear hfz23_0 hfz23_1 hfz23_2 hfz23_3
        try clear hfz30_0 hfz30_1 hfz30_2 hfz30_3
        try clear hfz31_0 hfz31_1 hfz31_2 hfz31_3
        try clear hfz33_0 hfz33_1 hfz33_2 hfz33_3
        try clear hfz34_0 hfz34_1 hfz34_2 hfz34_3
        try clear hfz36_0 hfz36_1 hfz36_2 hfz36_3
        try clear hx118_0
        try clear hx118_1
        try clear hx118_2
        try clear hx118_3
        try clear hx118_4
        try clear hx118_5
        try clear hx118_6
        try clear hx118_7
        try clear hx118_8
        try clear hx119_0
        try clear hx119_1
        try clear hx119_2
        try clear hx119_3
        try clear hx119_4
        try clear hx119_5
        try clear hx119_6
        try clear hx119_7
        try clear hx119_8
        try clear p118
        try clear p119
        try clear p2
        try clear q118
        try clear q119
        obtain ⟨x61_3, rfl, HA, HK3, BK116, BK117, HB⟩ := hrel
        cases gk with
        | zero => exact absurd HA.out (by simp [foghornref13_Same.l1])
        | succ k3 =>
         have H := HA.out
         clear HA
         simp only [foghornref13_Same.l1] at H
         by_cases c37 : x61_3 < (l0_1.length : Int)
         ·rw [if_pos c37] at H
          have c37b0 : decide (x61_3 < (l0_1.length : Int)) = true := decide_eq_true c37
          clear c37
          by_cases c38 : 0 ≤ x61_3
          ·rw [if_pos c38] at H
           have c38b0 : decide (0 ≤ x61_3) = true := decide_eq_true c38
           clear c38
           by_cases c39 : x61_3 < (l0_1.length : Int)
           ·rw [if_pos c39] at H
            have c39b0 : decide (x61_3 < (l0_1.length : Int)) = true := decide_eq_true c39
            clear c39
            by_cases c40 : x61_3 < (l1_1.length : Int)
            ·rw [if_pos c40] at H
             have c40b0 : decide (x61_3 < (l1_1.length : Int)) = true := decide_eq_true c40
             clear c40
             have HC41 := aA H
             clear H
             have p120 : 0 ≤ (x61_3 : Int) := of_decide_eq_true (by first | (with_reducible assumption) | assumption)
             have q120 : x61_3 < (l0_1.length : Int) := of_decide_eq_true (by first | (with_reducible assumption) | assumption)
             obtain ⟨ad120, A120_0, c120_0, A120_1, c120_1, e120, hx120_0, hx120_1, hl120_0, hi120_0, hl120_1, hi120_1⟩ := at_T93 HR0_1.out x61_3 p120 q120
             cases e120
             replace hx120_0 := (HB.out.cell (World.block_lt_of_cell? w _ hx120_0)).trans hx120_0
             replace hx120_1 := (HB.out.cell (World.block_lt_of_cell? w _ hx120_1)).trans hx120_1
             have HR120_0 := aA hi120_0
             have HC120_0 := aA hl120_0
             clear hi120_0 hl120_0
             have HR120_1 := aA hi120_1
             have HC120_1 := aA hl120_1
             clear hi120_1 hl120_1
             replace p120 := eq_true p120
             replace q120 := eq_true q120
             go_upto_region 13 with (first | ((with_reducible refine gate_dst (N := 7) rfl ?_); (try (refine gate_guard (by rfl) ?_; dsimp only)); refine box_event ?hg (N := 7) ?hd (cs := #[.slice none 0 0, .slice none 0 0]) (t := 93) ?hr ?_; (case hd => rfl); (case hg => rfl); (case hr => first | (go_simp; done) | (go_simp; rfl)); intro gb121 hg w42 hbox hb; have n0_ := aA (bB BK116.out hb); have n1_ := aA (bB BK117.out hb); have n2_ := aA (below_step (mD2 GE116.out GE117.out) hb); have n3_ := aA (hbox); have n4_ := aA ((bZ hg (mD2 GE116.out GE117.out))); have n5_ := aA ((bZ hg (mD2 GE116.out GE117.out))); have n6_ := aA ((bL hg BK116.out)); have n7_ := aA ((bG hg BK116.out)); have n8_ := aA ((bL hg BK117.out)); have n9_ := aA ((bG hg BK117.out)); clear BK116 BK117 HB; have BK116 := n0_; have BK117 := n1_; have HB := n2_; have BK121 := n3_; have GW121 := n4_; have GE121 := n5_; have NB116_121 := n6_; have NB121_116 := n7_; have NB117_121 := n8_; have NB121_117 := n9_; clear n0_ n1_ n2_ n3_ n4_ n5_ n6_ n7_ n8_ n9_ hb hbox hg; have hnb43 := NB121_116.out; have hnc43 := NB116_121.out; have hnb44 := NB121_117.out; have hnc44 := NB117_121.out; obtain ⟨hcz45_0, hcz45_1⟩ := bC2 BK121.out; obtain ⟨hfz45_0, hfz45_1⟩ := bF2 BK121.out; have hnb46 := NB117_116.out; have hnc46 := NB116_117.out; obtain ⟨hcz47_0, hcz47_1, hcz47_2, hcz47_3⟩ := bC4 BK117.out; obtain ⟨hfz47_0, hfz47_1, hfz47_2, hfz47_3⟩ := bF4 BK117.out; have p122 : 0 ≤ (x61_3 : Int) := of_decide_eq_true (by first | (with_reducible assumption) | assumption); have q122 : x61_3 < (l1_1.length : Int) := of_decide_eq_true (by first | (with_reducible assumption) | assumption); obtain ⟨ad122, A122_0, c122_0, A122_1, c122_1, e122, hx122_0, hx122_1, hl122_0, hi122_0, hl122_1, hi122_1⟩ := at_T93 HR1_1.out x61_3 p122 q122; cases e122; have hn122_0 : ad122.block ≠ gb121 := Nat.ne_of_lt (Nat.lt_of_lt_of_le (by have := World.block_lt_of_cell? _ _ hx122_0; first | rwa [add_block] at this | exact this) GW121.out); have hn122_1 : ad122.block ≠ gb121 := Nat.ne_of_lt (Nat.lt_of_lt_of_le (by have := World.block_lt_of_cell? _ _ hx122_0; first | rwa [add_block] at this | exact this) GW121.out); replace hx122_0 := (HB.out.cell (World.block_lt_of_cell? w _ hx122_0)).trans hx122_0; replace hx122_1 := (HB.out.cell (World.block_lt_of_cell? w _ hx122_1)).trans hx122_1; have HR122_0 := aA hi122_0; have HC122_0 := aA hl122_0; clear hi122_0 hl122_0; have HR122_1 := aA hi122_1; have HC122_1 := aA hl122_1; clear hi122_1 hl122_1; replace hx122_0 := (cell_far (p := ⟨gb121, 0, none⟩) (by first | (rw [add_block]; exact hn122_0) | (show (Addr.add _ _).block ≠ _; rw [add_block]; exact hn122_0) | exact hn122_0) (.slice A120_0 ((rd_T93 l0_1 x61_3).f0).length c120_0)).trans hx122_0; replace hx122_1 := (cell_far (p := ⟨gb121, 0, none⟩) (by first | (rw [add_block]; exact hn122_0) | (show (Addr.add _ _).block ≠ _; rw [add_block]; exact hn122_0) | exact hn122_0) (.slice A120_0 ((rd_T93 l0_1 x61_3).f0).length c120_0)).trans hx122_1; replace hx122_0 := (cell_far (p := ⟨gb121, 1, none⟩) (by first | (rw [add_block]; exact hn122_1) | (show (Addr.add _ _).block ≠ _; rw [add_block]; exact hn122_1) | exact hn122_1) (.slice A120_1 ((rd_T93 l0_1 x61_3).f1).length c120_1)).trans hx122_0; replace hx122_1 := (cell_far (p := ⟨gb121, 1, none⟩) (by first | (rw [add_block]; exact hn122_1) | (show (Addr.add _ _).block ≠ _; rw [add_block]; exact hn122_1) | exact hn122_1) (.slice A120_1 ((rd_T93 l0_1 x61_3).f1).length c120_1)).trans hx122_1; (try have hy122_0 := fun (n_ : Nat) => (show ((((w42.drewN n_).setCell ⟨gb121, 0, none⟩ (.slice A120_0 ((rd_T93 l0_1 x61_3).f0).length c120_0)).setCell ⟨gb121, 1, none⟩ (.slice A120_1 ((rd_T93 l0_1 x61_3).f1).length c120_1))).cell? _ = some _ from hx122_0)); (try have hy122_1 := fun (n_ : Nat) => (show ((((w42.drewN n_).setCell ⟨gb121, 0, none⟩ (.slice A120_0 ((rd_T93 l0_1 x61_3).f0).length c120_0)).setCell ⟨gb121, 1, none⟩ (.slice A120_1 ((rd_T93 l0_1 x61_3).f1).length c120_1))).cell? _ = some _ from hx122_1)); clear hn122_0 hn122_1; replace p122 := eq_true p122; replace q122 := eq_true q122) | ((with_reducible refine gate_dst (N := 8) rfl ?_); (try (refine gate_guard (by rfl) ?_; dsimp only)); refine box_event ?hg (N := 8) ?hd (cs := #[.slice none 0 0, .slice none 0 0]) (t := 93) ?hr ?_; (case hd => rfl); (case hg => rfl); (case hr => first | (go_simp; done) | (go_simp; rfl)); intro gb123 hg w48 hbox hb; have n0_ := aA (blk_below (g := gb116) (o := .cells #[.slice A0_0 l0_0.length c0_0, .slice (some ad120) l0_1.length c0_1, .int .i64 a0_2, .int .i64 a0_3] 57 (0, 0)) (by (with_reducible repeat (first | refine blk_drewN ?_ _ | refine blk_drew ?_ | refine blk_alloc ?_ _)); refine blk_far ?_ NB116_121.out _; (with_reducible repeat (first | refine blk_drewN ?_ _ | refine blk_drew ?_ | refine blk_alloc ?_ _)); refine blk_far ?_ NB116_121.out _; (with_reducible repeat (first | refine blk_drewN ?_ _ | refine blk_drew ?_ | refine blk_alloc ?_ _)); exact BK116.out) hb); have n1_ := aA (blk_below (g := gb117) (o := .cells #[.slice A1_0 l1_0.length c1_0, .slice (some ad122) l1_1.length c1_1, .int .i64 a1_2, .int .i64 a1_3] 57 (0, 0)) (by (with_reducible repeat (first | refine blk_drewN ?_ _ | refine blk_drew ?_ | refine blk_alloc ?_ _)); refine blk_far ?_ NB117_121.out _; (with_reducible repeat (first | refine blk_drewN ?_ _ | refine blk_drew ?_ | refine blk_alloc ?_ _)); refine blk_far ?_ NB117_121.out _; (with_reducible repeat (first | refine blk_drewN ?_ _ | refine blk_drew ?_ | refine blk_alloc ?_ _)); exact BK117.out) hb); have n2_ := aA (blk_below (g := gb121) (o := .cells #[.slice A120_0 ((rd_T93 l0_1 x61_3).f0).length c120_0, .slice A120_1 ((rd_T93 l0_1 x61_3).f1).length c120_1] 93 (0, 0)) (by (with_reducible repeat (first | refine blk_drewN ?_ _ | refine blk_drew ?_ | refine blk_alloc ?_ _)); have h_ := BK121.out; exact pK 1 (pK 0 (h_))) hb); have n3_ := aA (below_step (mD3 GE116.out GE117.out GE121.out) hb); have n4_ := aA (hbox); have n5_ := aA ((bZ hg (mD3 GE116.out GE117.out GE121.out))); have n6_ := aA ((bZ hg (mD3 GE116.out GE117.out GE121.out))); have n7_ := aA ((by rw [hg]; exact Nat.ne_of_lt (blk_lt (g := gb116) (o := .cells #[.slice A0_0 l0_0.length c0_0, .slice (some ad120) l0_1.length c0_1, .int .i64 a0_2, .int .i64 a0_3] 57 (0, 0)) (by (with_reducible repeat (first | refine blk_drewN ?_ _ | refine blk_drew ?_ | refine blk_alloc ?_ _)); refine blk_far ?_ NB116_121.out _; (with_reducible repeat (first | refine blk_drewN ?_ _ | refine blk_drew ?_ | refine blk_alloc ?_ _)); refine blk_far ?_ NB116_121.out _; (with_reducible repeat (first | refine blk_drewN ?_ _ | refine blk_drew ?_ | refine blk_alloc ?_ _)); exact BK116.out)) : gb116 ≠ gb123)); have n8_ := aA ((by rw [hg]; exact Nat.ne_of_gt (blk_lt (g := gb116) (o := .cells #[.slice A0_0 l0_0.length c0_0, .slice (some ad120) l0_1.length c0_1, .int .i64 a0_2, .int .i64 a0_3] 57 (0, 0)) (by (with_reducible repeat (first | refine blk_drewN ?_ _ | refine blk_drew ?_ | refine blk_alloc ?_ _)); refine blk_far ?_ NB116_121.out _; (with_reducible repeat (first | refine blk_drewN ?_ _ | refine blk_drew ?_ | refine blk_alloc ?_ _)); refine blk_far ?_ NB116_121.out _; (with_reducible repeat (first | refine blk_drewN ?_ _ | refine blk_drew ?_ | refine blk_alloc ?_ _)); exact BK116.out)) : gb123 ≠ gb116)); have n9_ := aA ((by rw [hg]; exact Nat.ne_of_lt (blk_lt (g := gb117) (o := .cells #[.slice A1_0 l1_0.length c1_0, .slice (some ad122) l1_1.length c1_1, .int .i64 a1_2, .int .i64 a1_3] 57 (0, 0)) (by (with_reducible repeat (first | refine blk_drewN ?_ _ | refine blk_drew ?_ | refine blk_alloc ?_ _)); refine blk_far ?_ NB117_121.out _; (with_reducible repeat (first | refine blk_drewN ?_ _ | refine blk_drew ?_ | refine blk_alloc ?_ _)); refine blk_far ?_ NB117_121.out _; (with_reducible repeat (first | refine blk_drewN ?_ _ | refine blk_drew ?_ | refine blk_alloc ?_ _)); exact BK117.out)) : gb117 ≠ gb123)); have n10_ := aA ((by rw [hg]; exact Nat.ne_of_gt (blk_lt (g := gb117) (o := .cells #[.slice A1_0 l1_0.length c1_0, .slice (some ad122) l1_1.length c1_1, .int .i64 a1_2, .int .i64 a1_3] 57 (0, 0)) (by (with_reducible repeat (first | refine blk_drewN ?_ _ | refine blk_drew ?_ | refine blk_alloc ?_ _)); refine blk_far ?_ NB117_121.out _; (with_reducible repeat (first | refine blk_drewN ?_ _ | refine blk_drew ?_ | refine blk_alloc ?_ _)); refine blk_far ?_ NB117_121.out _; (with_reducible repeat (first | refine blk_drewN ?_ _ | refine blk_drew ?_ | refine blk_alloc ?_ _)); exact BK117.out)) : gb123 ≠ gb117)); have n11_ := aA ((by rw [hg]; exact Nat.ne_of_lt (blk_lt (g := gb121) (o := .cells #[.slice A120_0 ((rd_T93 l0_1 x61_3).f0).length c120_0, .slice A120_1 ((rd_T93 l0_1 x61_3).f1).length c120_1] 93 (0, 0)) (by (with_reducible repeat (first | refine blk_drewN ?_ _ | refine blk_drew ?_ | refine blk_alloc ?_ _)); have h_ := BK121.out; exact pK 1 (pK 0 (h_)))) : gb121 ≠ gb123)); have n12_ := aA ((by rw [hg]; exact Nat.ne_of_gt (blk_lt (g := gb121) (o := .cells #[.slice A120_0 ((rd_T93 l0_1 x61_3).f0).length c120_0, .slice A120_1 ((rd_T93 l0_1 x61_3).f1).length c120_1] 93 (0, 0)) (by (with_reducible repeat (first | refine blk_drewN ?_ _ | refine blk_drew ?_ | refine blk_alloc ?_ _)); have h_ := BK121.out; exact pK 1 (pK 0 (h_)))) : gb123 ≠ gb121)); clear BK116 BK117 BK121 HB; have BK116 := n0_; have BK117 := n1_; have BK121 := n2_; have HB := n3_; have BK123 := n4_; have GW123 := n5_; have GE123 := n6_; have NB116_123 := n7_; have NB123_116 := n8_; have NB117_123 := n9_; have NB123_117 := n10_; have NB121_123 := n11_; have NB123_121 := n12_; clear n0_ n1_ n2_ n3_ n4_ n5_ n6_ n7_ n8_ n9_ n10_ n11_ n12_ hb hbox hg; have hnb49 := NB123_116.out; have hnc49 := NB116_123.out; have hnb50 := NB123_117.out; have hnc50 := NB117_123.out; have hnb51 := NB123_121.out; have hnc51 := NB121_123.out; obtain ⟨hcz52_0, hcz52_1⟩ := bC2 BK123.out; obtain ⟨hfz52_0, hfz52_1⟩ := bF2 BK123.out))
             repeat (go_quiet (first | ((with_reducible refine gate_dst (N := 7) rfl ?_); (try (refine gate_guard (by rfl) ?_; dsimp only)); refine box_event ?hg (N := 7) ?hd (cs := #[.slice none 0 0, .slice none 0 0]) (t := 93) ?hr ?_; (case hd => rfl); (case hg => rfl); (case hr => first | (go_simp; done) | (go_simp; rfl)); intro gb121 hg w42 hbox hb; have n0_ := aA (bB BK116.out hb); have n1_ := aA (bB BK117.out hb); have n2_ := aA (below_step (mD2 GE116.out GE117.out) hb); have n3_ := aA (hbox); have n4_ := aA ((bZ hg (mD2 GE116.out GE117.out))); have n5_ := aA ((bZ hg (mD2 GE116.out GE117.out))); have n6_ := aA ((bL hg BK116.out)); have n7_ := aA ((bG hg BK116.out)); have n8_ := aA ((bL hg BK117.out)); have n9_ := aA ((bG hg BK117.out)); clear BK116 BK117 HB; have BK116 := n0_; have BK117 := n1_; have HB := n2_; have BK121 := n3_; have GW121 := n4_; have GE121 := n5_; have NB116_121 := n6_; have NB121_116 := n7_; have NB117_121 := n8_; have NB121_117 := n9_; clear n0_ n1_ n2_ n3_ n4_ n5_ n6_ n7_ n8_ n9_ hb hbox hg; have hnb43 := NB121_116.out; have hnc43 := NB116_121.out; have hnb44 := NB121_117.out; have hnc44 := NB117_121.out; obtain ⟨hcz45_0, hcz45_1⟩ := bC2 BK121.out; obtain ⟨hfz45_0, hfz45_1⟩ := bF2 BK121.out; have hnb46 := NB117_116.out; have hnc46 := NB116_117.out; obtain ⟨hcz47_0, hcz47_1, hcz47_2, hcz47_3⟩ := bC4 BK117.out; obtain ⟨hfz47_0, hfz47_1, hfz47_2, hfz47_3⟩ := bF4 BK117.out; have p122 : 0 ≤ (x61_3 : Int) := of_decide_eq_true (by first | (with_reducible assumption) | assumption); have q122 : x61_3 < (l1_1.length : Int) := of_decide_eq_true (by first | (with_reducible assumption) | assumption); obtain ⟨ad122, A122_0, c122_0, A122_1, c122_1, e122, hx122_0, hx122_1, hl122_0, hi122_0, hl122_1, hi122_1⟩ := at_T93 HR1_1.out x61_3 p122 q122; cases e122; have hn122_0 : ad122.block ≠ gb121 := Nat.ne_of_lt (Nat.lt_of_lt_of_le (by have := World.block_lt_of_cell? _ _ hx122_0; first | rwa [add_block] at this | exact this) GW121.out); have hn122_1 : ad122.block ≠ gb121 := Nat.ne_of_lt (Nat.lt_of_lt_of_le (by have := World.block_lt_of_cell? _ _ hx122_0; first | rwa [add_block] at this | exact this) GW121.out); replace hx122_0 := (HB.out.cell (World.block_lt_of_cell? w _ hx122_0)).trans hx122_0; replace hx122_1 := (HB.out.cell (World.block_lt_of_cell? w _ hx122_1)).trans hx122_1; have HR122_0 := aA hi122_0; have HC122_0 := aA hl122_0; clear hi122_0 hl122_0; have HR122_1 := aA hi122_1; have HC122_1 := aA hl122_1; clear hi122_1 hl122_1; replace hx122_0 := (cell_far (p := ⟨gb121, 0, none⟩) (by first | (rw [add_block]; exact hn122_0) | (show (Addr.add _ _).block ≠ _; rw [add_block]; exact hn122_0) | exact hn122_0) (.slice A120_0 ((rd_T93 l0_1 x61_3).f0).length c120_0)).trans hx122_0; replace hx122_1 := (cell_far (p := ⟨gb121, 0, none⟩) (by first | (rw [add_block]; exact hn122_0) | (show (Addr.add _ _).block ≠ _; rw [add_block]; exact hn122_0) | exact hn122_0) (.slice A120_0 ((rd_T93 l0_1 x61_3).f0).length c120_0)).trans hx122_1; replace hx122_0 := (cell_far (p := ⟨gb121, 1, none⟩) (by first | (rw [add_block]; exact hn122_1) | (show (Addr.add _ _).block ≠ _; rw [add_block]; exact hn122_1) | exact hn122_1) (.slice A120_1 ((rd_T93 l0_1 x61_3).f1).length c120_1)).trans hx122_0; replace hx122_1 := (cell_far (p := ⟨gb121, 1, none⟩) (by first | (rw [add_block]; exact hn122_1) | (show (Addr.add _ _).block ≠ _; rw [add_block]; exact hn122_1) | exact hn122_1) (.slice A120_1 ((rd_T93 l0_1 x61_3).f1).length c120_1)).trans hx122_1; (try have hy122_0 := fun (n_ : Nat) => (show ((((w42.drewN n_).setCell ⟨gb121, 0, none⟩ (.slice A120_0 ((rd_T93 l0_1 x61_3).f0).length c120_0)).setCell ⟨gb121, 1, none⟩ (.slice A120_1 ((rd_T93 l0_1 x61_3).f1).length c120_1))).cell? _ = some _ from hx122_0)); (try have hy122_1 := fun (n_ : Nat) => (show ((((w42.drewN n_).setCell ⟨gb121, 0, none⟩ (.slice A120_0 ((rd_T93 l0_1 x61_3).f0).length c120_0)).setCell ⟨gb121, 1, none⟩ (.slice A120_1 ((rd_T93 l0_1 x61_3).f1).length c120_1))).cell? _ = some _ from hx122_1)); clear hn122_0 hn122_1; replace p122 := eq_true p122; replace q122 := eq_true q122) | ((with_reducible refine gate_dst (N := 8) rfl ?_); (try (refine gate_guard (by rfl) ?_; dsimp only)); refine box_event ?hg (N := 8) ?hd (cs := #[.slice none 0 0, .slice none 0 0]) (t := 93) ?hr ?_; (case hd => rfl); (case hg => rfl); (case hr => first | (go_simp; done) | (go_simp; rfl)); intro gb123 hg w48 hbox hb; have n0_ := aA (blk_below (g := gb116) (o := .cells #[.slice A0_0 l0_0.length c0_0, .slice (some ad120) l0_1.length c0_1, .int .i64 a0_2, .int .i64 a0_3] 57 (0, 0)) (by (with_reducible repeat (first | refine blk_drewN ?_ _ | refine blk_drew ?_ | refine blk_alloc ?_ _)); refine blk_far ?_ NB116_121.out _; (with_reducible repeat (first | refine blk_drewN ?_ _ | refine blk_drew ?_ | refine blk_alloc ?_ _)); refine blk_far ?_ NB116_121.out _; (with_reducible repeat (first | refine blk_drewN ?_ _ | refine blk_drew ?_ | refine blk_alloc ?_ _)); exact BK116.out) hb); have n1_ := aA (blk_below (g := gb117) (o := .cells #[.slice A1_0 l1_0.length c1_0, .slice (some ad122) l1_1.length c1_1, .int .i64 a1_2, .int .i64 a1_3] 57 (0, 0)) (by (with_reducible repeat (first | refine blk_drewN ?_ _ | refine blk_drew ?_ | refine blk_alloc ?_ _)); refine blk_far ?_ NB117_121.out _; (with_reducible repeat (first | refine blk_drewN ?_ _ | refine blk_drew ?_ | refine blk_alloc ?_ _)); refine blk_far ?_ NB117_121.out _; (with_reducible repeat (first | refine blk_drewN ?_ _ | refine blk_drew ?_ | refine blk_alloc ?_ _)); exact BK117.out) hb); have n2_ := aA (blk_below (g := gb121) (o := .cells #[.slice A120_0 ((rd_T93 l0_1 x61_3).f0).length c120_0, .slice A120_1 ((rd_T93 l0_1 x61_3).f1).length c120_1] 93 (0, 0)) (by (with_reducible repeat (first | refine blk_drewN ?_ _ | refine blk_drew ?_ | refine blk_alloc ?_ _)); have h_ := BK121.out; exact pK 1 (pK 0 (h_))) hb); have n3_ := aA (below_step (mD3 GE116.out GE117.out GE121.out) hb); have n4_ := aA (hbox); have n5_ := aA ((bZ hg (mD3 GE116.out GE117.out GE121.out))); have n6_ := aA ((bZ hg (mD3 GE116.out GE117.out GE121.out))); have n7_ := aA ((by rw [hg]; exact Nat.ne_of_lt (blk_lt (g := gb116) (o := .cells #[.slice A0_0 l0_0.length c0_0, .slice (some ad120) l0_1.length c0_1, .int .i64 a0_2, .int .i64 a0_3] 57 (0, 0)) (by (with_reducible repeat (first | refine blk_drewN ?_ _ | refine blk_drew ?_ | refine blk_alloc ?_ _)); refine blk_far ?_ NB116_121.out _; (with_reducible repeat (first | refine blk_drewN ?_ _ | refine blk_drew ?_ | refine blk_alloc ?_ _)); refine blk_far ?_ NB116_121.out _; (with_reducible repeat (first | refine blk_drewN ?_ _ | refine blk_drew ?_ | refine blk_alloc ?_ _)); exact BK116.out)) : gb116 ≠ gb123)); have n8_ := aA ((by rw [hg]; exact Nat.ne_of_gt (blk_lt (g := gb116) (o := .cells #[.slice A0_0 l0_0.length c0_0, .slice (some ad120) l0_1.length c0_1, .int .i64 a0_2, .int .i64 a0_3] 57 (0, 0)) (by (with_reducible repeat (first | refine blk_drewN ?_ _ | refine blk_drew ?_ | refine blk_alloc ?_ _)); refine blk_far ?_ NB116_121.out _; (with_reducible repeat (first | refine blk_drewN ?_ _ | refine blk_drew ?_ | refine blk_alloc ?_ _)); refine blk_far ?_ NB116_121.out _; (with_reducible repeat (first | refine blk_drewN ?_ _ | refine blk_drew ?_ | refine blk_alloc ?_ _)); exact BK116.out)) : gb123 ≠ gb116)); have n9_ := aA ((by rw [hg]; exact Nat.ne_of_lt (blk_lt (g := gb117) (o := .cells #[.slice A1_0 l1_0.length c1_0, .slice (some ad122) l1_1.length c1_1, .int .i64 a1_2, .int .i64 a1_3] 57 (0, 0)) (by (with_reducible repeat (first | refine blk_drewN ?_ _ | refine blk_drew ?_ | refine blk_alloc ?_ _)); refine blk_far ?_ NB117_121.out _; (with_reducible repeat (first | refine blk_drewN ?_ _ | refine blk_drew ?_ | refine blk_alloc ?_ _)); refine blk_far ?_ NB117_121.out _; (with_reducible repeat (first | refine blk_drewN ?_ _ | refine blk_drew ?_ | refine blk_alloc ?_ _)); exact BK117.out)) : gb117 ≠ gb123)); have n10_ := aA ((by rw [hg]; exact Nat.ne_of_gt (blk_lt (g := gb117) (o := .cells #[.slice A1_0 l1_0.length c1_0, .slice (some ad122) l1_1.length c1_1, .int .i64 a1_2, .int .i64 a1_3] 57 (0, 0)) (by (with_reducible repeat (first | refine blk_drewN ?_ _ | refine blk_drew ?_ | refine blk_alloc ?_ _)); refine blk_far ?_ NB117_121.out _; (with_reducible repeat (first | refine blk_drewN ?_ _ | refine blk_drew ?_ | refine blk_alloc ?_ _)); refine blk_far ?_ NB117_121.out _; (with_reducible repeat (first | refine blk_drewN ?_ _ | refine blk_drew ?_ | refine blk_alloc ?_ _)); exact BK117.out)) : gb123 ≠ gb117)); have n11_ := aA ((by rw [hg]; exact Nat.ne_of_lt (blk_lt (g := gb121) (o := .cells #[.slice A120_0 ((rd_T93 l0_1 x61_3).f0).length c120_0, .slice A120_1 ((rd_T93 l0_1 x61_3).f1).length c120_1] 93 (0, 0)) (by (with_reducible repeat (first | refine blk_drewN ?_ _ | refine blk_drew ?_ | refine blk_alloc ?_ _)); have h_ := BK121.out; exact pK 1 (pK 0 (h_)))) : gb121 ≠ gb123)); have n12_ := aA ((by rw [hg]; exact Nat.ne_of_gt (blk_lt (g := gb121) (o := .cells #[.slice A120_0 ((rd_T93 l0_1 x61_3).f0).length c120_0, .slice A120_1 ((rd_T93 l0_1 x61_3).f1).length c120_1] 93 (0, 0)) (by (with_reducible repeat (first | refine blk_drewN ?_ _ | refine blk_drew ?_ | refine blk_alloc ?_ _)); have h_ := BK121.out; exact pK 1 (pK 0 (h_)))) : gb123 ≠ gb121)); clear BK116 BK117 BK121 HB; have BK116 := n0_; have BK117 := n1_; have BK121 := n2_; have HB := n3_; have BK123 := n4_; have GW123 := n5_; have GE123 := n6_; have NB116_123 := n7_; have NB123_116 := n8_; have NB117_123 := n9_; have NB123_117 := n10_; have NB121_123 := n11_; have NB123_121 := n12_; clear n0_ n1_ n2_ n3_ n4_ n5_ n6_ n7_ n8_ n9_ n10_ n11_ n12_ hb hbox hg; have hnb49 := NB123_116.out; have hnc49 := NB116_123.out; have hnb50 := NB123_117.out; have hnc50 := NB117_123.out; have hnb51 := NB123_121.out; have hnc51 := NB121_123.out; obtain ⟨hcz52_0, hcz52_1⟩ := bC2 BK123.out; obtain ⟨hfz52_0, hfz52_1⟩ := bF2 BK123.out)); go_upto_region 13 with (first | ((with_reducible refine gate_dst (N := 7) rfl ?_); (try (refine gate_guard (by rfl) ?_; dsimp only)); refine box_event ?hg (N := 7) ?hd (cs := #[.slice none 0 0, .slice none 0 0]) (t := 93) ?hr ?_; (case hd => rfl); (case hg => rfl); (case hr => first | (go_simp; done) | (go_simp; rfl)); intro gb121 hg w42 hbox hb; have n0_ := aA (bB BK116.out hb); have n1_ := aA (bB BK117.out hb); have n2_ := aA (below_step (mD2 GE116.out GE117.out) hb); have n3_ := aA (hbox); have n4_ := aA ((bZ hg (mD2 GE116.out GE117.out))); have n5_ := aA ((bZ hg (mD2 GE116.out GE117.out))); have n6_ := aA ((bL hg BK116.out)); have n7_ := aA ((bG hg BK116.out)); have n8_ := aA ((bL hg BK117.out)); have n9_ := aA ((bG hg BK117.out)); clear BK116 BK117 HB; have BK116 := n0_; have BK117 := n1_; have HB := n2_; have BK121 := n3_; have GW121 := n4_; have GE121 := n5_; have NB116_121 := n6_; have NB121_116 := n7_; have NB117_121 := n8_; have NB121_117 := n9_; clear n0_ n1_ n2_ n3_ n4_ n5_ n6_ n7_ n8_ n9_ hb hbox hg; have hnb43 := NB121_116.out; have hnc43 := NB116_121.out; have hnb44 := NB121_117.out; have hnc44 := NB117_121.out; obtain ⟨hcz45_0, hcz45_1⟩ := bC2 BK121.out; obtain ⟨hfz45_0, hfz45_1⟩ := bF2 BK121.out; have hnb46 := NB117_116.out; have hnc46 := NB116_117.out; obtain ⟨hcz47_0, hcz47_1, hcz47_2, hcz47_3⟩ := bC4 BK117.out; obtain ⟨hfz47_0, hfz47_1, hfz47_2, hfz47_3⟩ := bF4 BK117.out; have p122 : 0 ≤ (x61_3 : Int) := of_decide_eq_true (by first | (with_reducible assumption) | assumption); have q122 : x61_3 < (l1_1.length : Int) := of_decide_eq_true (by first | (with_reducible assumption) | assumption); obtain ⟨ad122, A122_0, c122_0, A122_1, c122_1, e122, hx122_0, hx122_1, hl122_0, hi122_0, hl122_1, hi122_1⟩ := at_T93 HR1_1.out x61_3 p122 q122; cases e122; have hn122_0 : ad122.block ≠ gb121 := Nat.ne_of_lt (Nat.lt_of_lt_of_le (by have := World.block_lt_of_cell? _ _ hx122_0; first | rwa [add_block] at this | exact this) GW121.out); have hn122_1 : ad122.block ≠ gb121 := Nat.ne_of_lt (Nat.lt_of_lt_of_le (by have := World.block_lt_of_cell? _ _ hx122_0; first | rwa [add_block] at this | exact this) GW121.out); replace hx122_0 := (HB.out.cell (World.block_lt_of_cell? w _ hx122_0)).trans hx122_0; replace hx122_1 := (HB.out.cell (World.block_lt_of_cell? w _ hx122_1)).trans hx122_1; have HR122_0 := aA hi122_0; have HC122_0 := aA hl122_0; clear hi122_0 hl122_0; have HR122_1 := aA hi122_1; have HC122_1 := aA hl122_1; clear hi122_1 hl122_1; replace hx122_0 := (cell_far (p := ⟨gb121, 0, none⟩) (by first | (rw [add_block]; exact hn122_0) | (show (Addr.add _ _).block ≠ _; rw [add_block]; exact hn122_0) | exact hn122_0) (.slice A120_0 ((rd_T93 l0_1 x61_3).f0).length c120_0)).trans hx122_0; replace hx122_1 := (cell_far (p := ⟨gb121, 0, none⟩) (by first | (rw [add_block]; exact hn122_0) | (show (Addr.add _ _).block ≠ _; rw [add_block]; exact hn122_0) | exact hn122_0) (.slice A120_0 ((rd_T93 l0_1 x61_3).f0).length c120_0)).trans hx122_1; replace hx122_0 := (cell_far (p := ⟨gb121, 1, none⟩) (by first | (rw [add_block]; exact hn122_1) | (show (Addr.add _ _).block ≠ _; rw [add_block]; exact hn122_1) | exact hn122_1) (.slice A120_1 ((rd_T93 l0_1 x61_3).f1).length c120_1)).trans hx122_0; replace hx122_1 := (cell_far (p := ⟨gb121, 1, none⟩) (by first | (rw [add_block]; exact hn122_1) | (show (Addr.add _ _).block ≠ _; rw [add_block]; exact hn122_1) | exact hn122_1) (.slice A120_1 ((rd_T93 l0_1 x61_3).f1).length c120_1)).trans hx122_1; (try have hy122_0 := fun (n_ : Nat) => (show ((((w42.drewN n_).setCell ⟨gb121, 0, none⟩ (.slice A120_0 ((rd_T93 l0_1 x61_3).f0).length c120_0)).setCell ⟨gb121, 1, none⟩ (.slice A120_1 ((rd_T93 l0_1 x61_3).f1).length c120_1))).cell? _ = some _ from hx122_0)); (try have hy122_1 := fun (n_ : Nat) => (show ((((w42.drewN n_).setCell ⟨gb121, 0, none⟩ (.slice A120_0 ((rd_T93 l0_1 x61_3).f0).length c120_0)).setCell ⟨gb121, 1, none⟩ (.slice A120_1 ((rd_T93 l0_1 x61_3).f1).length c120_1))).cell? _ = some _ from hx122_1)); clear hn122_0 hn122_1; replace p122 := eq_true p122; replace q122 := eq_true q122) | ((with_reducible refine gate_dst (N := 8) rfl ?_); (try (refine gate_guard (by rfl) ?_; dsimp only)); refine box_event ?hg (N := 8) ?hd (cs := #[.slice none 0 0, .slice none 0 0]) (t := 93) ?hr ?_; (case hd => rfl); (case hg => rfl); (case hr => first | (go_simp; done) | (go_simp; rfl)); intro gb123 hg w48 hbox hb; have n0_ := aA (blk_below (g := gb116) (o := .cells #[.slice A0_0 l0_0.length c0_0, .slice (some ad120) l0_1.length c0_1, .int .i64 a0_2, .int .i64 a0_3] 57 (0, 0)) (by (with_reducible repeat (first | refine blk_drewN ?_ _ | refine blk_drew ?_ | refine blk_alloc ?_ _)); refine blk_far ?_ NB116_121.out _; (with_reducible repeat (first | refine blk_drewN ?_ _ | refine blk_drew ?_ | refine blk_alloc ?_ _)); refine blk_far ?_ NB116_121.out _; (with_reducible repeat (first | refine blk_drewN ?_ _ | refine blk_drew ?_ | refine blk_alloc ?_ _)); exact BK116.out) hb); have n1_ := aA (blk_below (g := gb117) (o := .cells #[.slice A1_0 l1_0.length c1_0, .slice (some ad122) l1_1.length c1_1, .int .i64 a1_2, .int .i64 a1_3] 57 (0, 0)) (by (with_reducible repeat (first | refine blk_drewN ?_ _ | refine blk_drew ?_ | refine blk_alloc ?_ _)); refine blk_far ?_ NB117_121.out _; (with_reducible repeat (first | refine blk_drewN ?_ _ | refine blk_drew ?_ | refine blk_alloc ?_ _)); refine blk_far ?_ NB117_121.out _; (with_reducible repeat (first | refine blk_drewN ?_ _ | refine blk_drew ?_ | refine blk_alloc ?_ _)); exact BK117.out) hb); have n2_ := aA (blk_below (g := gb121) (o := .cells #[.slice A120_0 ((rd_T93 l0_1 x61_3).f0).length c120_0, .slice A120_1 ((rd_T93 l0_1 x61_3).f1).length c120_1] 93 (0, 0)) (by (with_reducible repeat (first | refine blk_drewN ?_ _ | refine blk_drew ?_ | refine blk_alloc ?_ _)); have h_ := BK121.out; exact pK 1 (pK 0 (h_))) hb); have n3_ := aA (below_step (mD3 GE116.out GE117.out GE121.out) hb); have n4_ := aA (hbox); have n5_ := aA ((bZ hg (mD3 GE116.out GE117.out GE121.out))); have n6_ := aA ((bZ hg (mD3 GE116.out GE117.out GE121.out))); have n7_ := aA ((by rw [hg]; exact Nat.ne_of_lt (blk_lt (g := gb116) (o := .cells #[.slice A0_0 l0_0.length c0_0, .slice (some ad120) l0_1.length c0_1, .int .i64 a0_2, .int .i64 a0_3] 57 (0, 0)) (by (with_reducible repeat (first | refine blk_drewN ?_ _ | refine blk_drew ?_ | refine blk_alloc ?_ _)); refine blk_far ?_ NB116_121.out _; (with_reducible repeat (first | refine blk_drewN ?_ _ | refine blk_drew ?_ | refine blk_alloc ?_ _)); refine blk_far ?_ NB116_121.out _; (with_reducible repeat (first | refine blk_drewN ?_ _ | refine blk_drew ?_ | refine blk_alloc ?_ _)); exact BK116.out)) : gb116 ≠ gb123)); have n8_ := aA ((by rw [hg]; exact Nat.ne_of_gt (blk_lt (g := gb116) (o := .cells #[.slice A0_0 l0_0.length c0_0, .slice (some ad120) l0_1.length c0_1, .int .i64 a0_2, .int .i64 a0_3] 57 (0, 0)) (by (with_reducible repeat (first | refine blk_drewN ?_ _ | refine blk_drew ?_ | refine blk_alloc ?_ _)); refine blk_far ?_ NB116_121.out _; (with_reducible repeat (first | refine blk_drewN ?_ _ | refine blk_drew ?_ | refine blk_alloc ?_ _)); refine blk_far ?_ NB116_121.out _; (with_reducible repeat (first | refine blk_drewN ?_ _ | refine blk_drew ?_ | refine blk_alloc ?_ _)); exact BK116.out)) : gb123 ≠ gb116)); have n9_ := aA ((by rw [hg]; exact Nat.ne_of_lt (blk_lt (g := gb117) (o := .cells #[.slice A1_0 l1_0.length c1_0, .slice (some ad122) l1_1.length c1_1, .int .i64 a1_2, .int .i64 a1_3] 57 (0, 0)) (by (with_reducible repeat (first | refine blk_drewN ?_ _ | refine blk_drew ?_ | refine blk_alloc ?_ _)); refine blk_far ?_ NB117_121.out _; (with_reducible repeat (first | refine blk_drewN ?_ _ | refine blk_drew ?_ | refine blk_alloc ?_ _)); refine blk_far ?_ NB117_121.out _; (with_reducible repeat (first | refine blk_drewN ?_ _ | refine blk_drew ?_ | refine blk_alloc ?_ _)); exact BK117.out)) : gb117 ≠ gb123)); have n10_ := aA ((by rw [hg]; exact Nat.ne_of_gt (blk_lt (g := gb117) (o := .cells #[.slice A1_0 l1_0.length c1_0, .slice (some ad122) l1_1.length c1_1, .int .i64 a1_2, .int .i64 a1_3] 57 (0, 0)) (by (with_reducible repeat (first | refine blk_drewN ?_ _ | refine blk_drew ?_ | refine blk_alloc ?_ _)); refine blk_far ?_ NB117_121.out _; (with_reducible repeat (first | refine blk_drewN ?_ _ | refine blk_drew ?_ | refine blk_alloc ?_ _)); refine blk_far ?_ NB117_121.out _; (with_reducible repeat (first | refine blk_drewN ?_ _ | refine blk_drew ?_ | refine blk_alloc ?_ _)); exact BK117.out)) : gb123 ≠ gb117)); have n11_ := aA ((by rw [hg]; exact Nat.ne_of_lt (blk_lt (g := gb121) (o := .cells #[.slice A120_0 ((rd_T93 l0_1 x61_3).f0).length c120_0, .slice A120_1 ((rd_T93 l0_1 x61_3).f1).length c120_1] 93 (0, 0)) (by (with_reducible repeat (first | refine blk_drewN ?_ _ | refine blk_drew ?_ | refine blk_alloc ?_ _)); have h_ := BK121.out; exact pK 1 (pK 0 (h_)))) : gb121 ≠ gb123)); have n12_ := aA ((by rw [hg]; exact Nat.ne_of_gt (blk_lt (g := gb121) (o := .cells #[.slice A120_0 ((rd_T93 l0_1 x61_3).f0).length c120_0, .slice A120_1 ((rd_T93 l0_1 x61_3).f1).length c120_1] 93 (0, 0)) (by (with_reducible repeat (first | refine blk_drewN ?_ _ | refine blk_drew ?_ | refine blk_alloc ?_ _)); have h_ := BK121.out; exact pK 1 (pK 0 (h_)))) : gb123 ≠ gb121)); clear BK116 BK117 BK121 HB; have BK116 := n0_; have BK117 := n1_; have BK121 := n2_; have HB := n3_; have BK123 := n4_; have GW123 := n5_; have GE123 := n6_; have NB116_123 := n7_; have NB123_116 := n8_; have NB117_123 := n9_; have NB123_117 := n10_; have NB121_123 := n11_; have NB123_121 := n12_; clear n0_ n1_ n2_ n3_ n4_ n5_ n6_ n7_ n8_ n9_ n10_ n11_ n12_ hb hbox hg; have hnb49 := NB123_116.out; have hnc49 := NB116_123.out; have hnb50 := NB123_117.out; have hnc50 := NB117_123.out; have hnb51 := NB123_121.out; have hnc51 := NB121_123.out; obtain ⟨hcz52_0, hcz52_1⟩ := bC2 BK123.out; obtain ⟨hfz52_0, hfz52_1⟩ := bF2 BK123.out)))
             (try simp only [Act.put, List.setIfInBounds_toArray, List.set_cons_zero, List.set_cons_succ])
             go_cut [85] (fun v85 wc => ∃ (kq : Nat) (x85_40 : Bool), v85 = .bool x85_40 ∧ Aside0 (foghornref13_Same.j3 kq l0_1 (l0_1.length : Int) x61_3 x85_40 l1_0 l1_1 a1_2 a1_3 ((rd_T93 l0_1 x61_3).f0) ((rd_T93 l0_1 x61_3).f1) ((rd_T93 l1_1 x61_3).f0) ((rd_T93 l1_1 x61_3).f1) = some r) ∧ Aside0 (kq ≤ k3) ∧ Aside0 (wc.heap[gb116]? = some (.cells #[(.slice A0_0 l0_0.length c0_0), (.slice (some ad120) l0_1.length c0_1), .int .i64 a0_2, .int .i64 a0_3] 57 (0, 0))) ∧ Aside0 (wc.heap[gb117]? = some (.cells #[(.slice A1_0 l1_0.length c1_0), (.slice (some ad122) l1_1.length c1_1), .int .i64 a1_2, .int .i64 a1_3] 57 (0, 0))) ∧ Aside0 (wc.heap[gb121]? = some (.cells #[(.slice A120_0 ((rd_T93 l0_1 x61_3).f0).length c120_0), (.slice A120_1 ((rd_T93 l0_1 x61_3).f1).length c120_1)] 93 (0, 0))) ∧ Aside0 (wc.heap[gb123]? = some (.cells #[(.slice A122_0 ((rd_T93 l1_1 x61_3).f0).length c122_0), (.slice A122_1 ((rd_T93 l1_1 x61_3).f1).length c122_1)] 93 (0, 0))) ∧ Aside0 (Below w.heap.size w wc))
             case first =>
              have H := HC41.out
              clear HC41
              replace H := Option.bind_eq_some_iff.mp H
              obtain ⟨t124, A530, H⟩ := H
              have A53 := aA A530
              clear A530
              by_cases c54 : t124 = true
              ·subst c54
               have H1 : (foghornref13_Same.j3 k3 l0_1 (l0_1.length : Int) x61_3 ((((rd_T93 l0_1 x61_3).f0).length : Int) != (((rd_T93 l1_1 x61_3).f0).length : Int)) l1_0 l1_1 a1_2 a1_3 ((rd_T93 l0_1 x61_3).f0) ((rd_T93 l0_1 x61_3).f1) ((rd_T93 l1_1 x61_3).f0) ((rd_T93 l1_1 x61_3).f1)) = some r := by rw [if_pos rfl] at H; exact H
               clear H
               have H := H1
               clear H1
               have H' := aA H
               clear H
               have hnb55 := NB121_116.out
               have hnc55 := NB116_121.out
               have hnb56 := NB121_117.out
               have hnc56 := NB117_121.out
               have hnb57 := NB121_123.out
               have hnc57 := NB123_121.out
               obtain ⟨hcz58_0, hcz58_1⟩ := bC2 BK121.out
               obtain ⟨hfz58_0, hfz58_1⟩ := bF2 BK121.out
               have hnb59 := NB123_116.out
               have hnc59 := NB116_123.out
               have hnb60 := NB123_117.out
               have hnc60 := NB117_123.out
               obtain ⟨hcz61_0, hcz61_1⟩ := bC2 BK123.out
               obtain ⟨hfz61_0, hfz61_1⟩ := bF2 BK123.out
               go_wp2_with (first | (go_at_call 58; (with_reducible refine (foghornref10_Asked.calls k3 _ _ ((rd_T93 l0_1 x61_3).f1) _ _ ((rd_T93 l1_1 x61_3).f1) true _ ?side1 ?side2 ?side3 ?side4 A53.out).mono ?_); (case side1 => exact Kd.C_below HR120_1.out (by repeat (first | (with_reducible first | exact HB.out | apply below_alloc | apply pw_below_drewN | apply below_drew1 | refine below_set ?_ GE116.out | refine below_set ?_ GE117.out | refine below_set ?_ GE121.out | refine below_set ?_ GE123.out) | exact HB.out))); (case side2 => exact HC120_1.out); (case side3 => exact Kd.C_below HR122_1.out (by repeat (first | (with_reducible first | exact HB.out | apply below_alloc | apply pw_below_drewN | apply below_drew1 | refine below_set ?_ GE116.out | refine below_set ?_ GE117.out | refine below_set ?_ GE121.out | refine below_set ?_ GE123.out) | exact HB.out))); (case side4 => exact HC122_1.out); rintro e w' ⟨rfl, ⟨nd, rfl⟩⟩; (try first | exact ⟨rfl, _, World.drewN_drewN _ _ _⟩ | exact ⟨rfl, _, Eq.trans (World.drewN_drewN _ _ _) (congrArg (World.drewN _) (Nat.add_assoc _ _ _))⟩)))
               repeat (go_quiet (first | (go_at_call 58; (with_reducible refine (foghornref10_Asked.calls k3 _ _ ((rd_T93 l0_1 x61_3).f1) _ _ ((rd_T93 l1_1 x61_3).f1) true _ ?side1 ?side2 ?side3 ?side4 A53.out).mono ?_); (case side1 => exact Kd.C_below HR120_1.out (by repeat (first | (with_reducible first | exact HB.out | apply below_alloc | apply pw_below_drewN | apply below_drew1 | refine below_set ?_ GE116.out | refine below_set ?_ GE117.out | refine below_set ?_ GE121.out | refine below_set ?_ GE123.out) | exact HB.out))); (case side2 => exact HC120_1.out); (case side3 => exact Kd.C_below HR122_1.out (by repeat (first | (with_reducible first | exact HB.out | apply below_alloc | apply pw_below_drewN | apply below_drew1 | refine below_set ?_ GE116.out | refine below_set ?_ GE117.out | refine below_set ?_ GE121.out | refine below_set ?_ GE123.out) | exact HB.out))); (case side4 => exact HC122_1.out); rintro e w' ⟨rfl, ⟨nd, rfl⟩⟩; (try first | exact ⟨rfl, _, World.drewN_drewN _ _ _⟩ | exact ⟨rfl, _, Eq.trans (World.drewN_drewN _ _ _) (congrArg (World.drewN _) (Nat.add_assoc _ _ _))⟩))); try go_wp2_with (first | (go_at_call 58; (with_reducible refine (foghornref10_Asked.calls k3 _ _ ((rd_T93 l0_1 x61_3).f1) _ _ ((rd_T93 l1_1 x61_3).f1) true _ ?side1 ?side2 ?side3 ?side4 A53.out).mono ?_); (case side1 => exact Kd.C_below HR120_1.out (by repeat (first | (with_reducible first | exact HB.out | apply below_alloc | apply pw_below_drewN | apply below_drew1 | refine below_set ?_ GE116.out | refine below_set ?_ GE117.out | refine below_set ?_ GE121.out | refine below_set ?_ GE123.out) | exact HB.out))); (case side2 => exact HC120_1.out); (case side3 => exact Kd.C_below HR122_1.out (by repeat (first | (with_reducible first | exact HB.out | apply below_alloc | apply pw_below_drewN | apply below_drew1 | refine below_set ?_ GE116.out | refine below_set ?_ GE117.out | refine below_set ?_ GE121.out | refine below_set ?_ GE123.out) | exact HB.out))); (case side4 => exact HC122_1.out); rintro e w' ⟨rfl, ⟨nd, rfl⟩⟩; (try first | exact ⟨rfl, _, World.drewN_drewN _ _ _⟩ | exact ⟨rfl, _, Eq.trans (World.drewN_drewN _ _ _) (congrArg (World.drewN _) (Nat.add_assoc _ _ _))⟩))))
               go_meet
               case rel => exact ⟨_, (((((rd_T93 l0_1 x61_3).f0).length : Int) != (((rd_T93 l1_1 x61_3).f0).length : Int))), (by first | rfl | (simp; done) | (simp [*]; done)), H', ⟨by have := HJ2.out; have := HK2.out; have := HK3.out; first | omega | exact Nat.le_refl _⟩, ⟨by (with_reducible repeat (first | refine blk_drewN ?_ _ | refine blk_drew ?_ | refine blk_alloc ?_ _)); refine blk_far ?_ NB116_123.out _; (with_reducible repeat (first | refine blk_drewN ?_ _ | refine blk_drew ?_ | refine blk_alloc ?_ _)); refine blk_far ?_ NB116_123.out _; (with_reducible repeat (first | refine blk_drewN ?_ _ | refine blk_drew ?_ | refine blk_alloc ?_ _)); exact BK116.out⟩, ⟨by (with_reducible repeat (first | refine blk_drewN ?_ _ | refine blk_drew ?_ | refine blk_alloc ?_ _)); refine blk_far ?_ NB117_123.out _; (with_reducible repeat (first | refine blk_drewN ?_ _ | refine blk_drew ?_ | refine blk_alloc ?_ _)); refine blk_far ?_ NB117_123.out _; (with_reducible repeat (first | refine blk_drewN ?_ _ | refine blk_drew ?_ | refine blk_alloc ?_ _)); exact BK117.out⟩, ⟨by (with_reducible repeat (first | refine blk_drewN ?_ _ | refine blk_drew ?_ | refine blk_alloc ?_ _)); refine blk_far ?_ NB121_123.out _; (with_reducible repeat (first | refine blk_drewN ?_ _ | refine blk_drew ?_ | refine blk_alloc ?_ _)); refine blk_far ?_ NB121_123.out _; (with_reducible repeat (first | refine blk_drewN ?_ _ | refine blk_drew ?_ | refine blk_alloc ?_ _)); exact BK121.out⟩, ⟨by (with_reducible repeat (first | refine blk_drewN ?_ _ | refine blk_drew ?_ | refine blk_alloc ?_ _)); refine blk_put (cs := #[.slice A122_0 ((rd_T93 l1_1 x61_3).f0).length c122_0, .slice none 0 0]) ?_ 1 _ rfl; (with_reducible repeat (first | refine blk_drewN ?_ _ | refine blk_drew ?_ | refine blk_alloc ?_ _)); refine blk_put (cs := #[.slice none 0 0, .slice none 0 0]) ?_ 0 _ rfl; (with_reducible repeat (first | refine blk_drewN ?_ _ | refine blk_drew ?_ | refine blk_alloc ?_ _)); exact BK123.out⟩, ⟨by repeat (first | (with_reducible first | exact HB.out | apply below_alloc | apply pw_below_drewN | apply below_drew1 | refine below_set ?_ GE116.out | refine below_set ?_ GE117.out | refine below_set ?_ GE121.out | refine below_set ?_ GE123.out) | exact HB.out)⟩⟩
              ·replace c54 := Bool.eq_false_iff.mpr c54
               subst c54
               have H1 : (foghornref13_Same.j3 k3 l0_1 (l0_1.length : Int) x61_3 true l1_0 l1_1 a1_2 a1_3 ((rd_T93 l0_1 x61_3).f0) ((rd_T93 l0_1 x61_3).f1) ((rd_T93 l1_1 x61_3).f0) ((rd_T93 l1_1 x61_3).f1)) = some r := by rw [if_neg (show ¬ (false = true) by decide)] at H; exact H
               clear H
               have H := H1
               clear H1
               have H' := aA H
               clear H
               have hnb62 := NB121_116.out
               have hnc62 := NB116_121.out
               have hnb63 := NB121_117.out
               have hnc63 := NB117_121.out
               have hnb64 := NB121_123.out
               have hnc64 := NB123_121.out
               obtain ⟨hcz65_0, hcz65_1⟩ := bC2 BK121.out
               obtain ⟨hfz65_0, hfz65_1⟩ := bF2 BK121.out
               have hnb66 := NB123_116.out
               have hnc66 := NB116_123.out
               have hnb67 := NB123_117.out
               have hnc67 := NB117_123.out
               obtain ⟨hcz68_0, hcz68_1⟩ := bC2 BK123.out
               obtain ⟨hfz68_0, hfz68_1⟩ := bF2 BK123.out
               go_wp2_with (first | (go_at_call 58; (with_reducible refine (foghornref10_Asked.calls k3 _ _ ((rd_T93 l0_1 x61_3).f1) _ _ ((rd_T93 l1_1 x61_3).f1) false _ ?side1 ?side2 ?side3 ?side4 A53.out).mono ?_); (case side1 => exact Kd.C_below HR120_1.out (by repeat (first | (with_reducible first | exact HB.out | apply below_alloc | apply pw_below_drewN | apply below_drew1 | refine below_set ?_ GE116.out | refine below_set ?_ GE117.out | refine below_set ?_ GE121.out | refine below_set ?_ GE123.out) | exact HB.out))); (case side2 => exact HC120_1.out); (case side3 => exact Kd.C_below HR122_1.out (by repeat (first | (with_reducible first | exact HB.out | apply below_alloc | apply pw_below_drewN | apply below_drew1 | refine below_set ?_ GE116.out | refine below_set ?_ GE117.out | refine below_set ?_ GE121.out | refine below_set ?_ GE123.out) | exact HB.out))); (case side4 => exact HC122_1.out); rintro e w' ⟨rfl, ⟨nd, rfl⟩⟩; (try first | exact ⟨rfl, _, World.drewN_drewN _ _ _⟩ | exact ⟨rfl, _, Eq.trans (World.drewN_drewN _ _ _) (congrArg (World.drewN _) (Nat.add_assoc _ _ _))⟩)))
               repeat (go_quiet (first | (go_at_call 58; (with_reducible refine (foghornref10_Asked.calls k3 _ _ ((rd_T93 l0_1 x61_3).f1) _ _ ((rd_T93 l1_1 x61_3).f1) false _ ?side1 ?side2 ?side3 ?side4 A53.out).mono ?_); (case side1 => exact Kd.C_below HR120_1.out (by repeat (first | (with_reducible first | exact HB.out | apply below_alloc | apply pw_below_drewN | apply below_drew1 | refine below_set ?_ GE116.out | refine below_set ?_ GE117.out | refine below_set ?_ GE121.out | refine below_set ?_ GE123.out) | exact HB.out))); (case side2 => exact HC120_1.out); (case side3 => exact Kd.C_below HR122_1.out (by repeat (first | (with_reducible first | exact HB.out | apply below_alloc | apply pw_below_drewN | apply below_drew1 | refine below_set ?_ GE116.out | refine below_set ?_ GE117.out | refine below_set ?_ GE121.out | refine below_set ?_ GE123.out) | exact HB.out))); (case side4 => exact HC122_1.out); rintro e w' ⟨rfl, ⟨nd, rfl⟩⟩; (try first | exact ⟨rfl, _, World.drewN_drewN _ _ _⟩ | exact ⟨rfl, _, Eq.trans (World.drewN_drewN _ _ _) (congrArg (World.drewN _) (Nat.add_assoc _ _ _))⟩))); try go_wp2_with (first | (go_at_call 58; (with_reducible refine (foghornref10_Asked.calls k3 _ _ ((rd_T93 l0_1 x61_3).f1) _ _ ((rd_T93 l1_1 x61_3).f1) false _ ?side1 ?side2 ?side3 ?side4 A53.out).mono ?_); (case side1 => exact Kd.C_below HR120_1.out (by repeat (first | (with_reducible first | exact HB.out | apply below_alloc | apply pw_below_drewN | apply below_drew1 | refine below_set ?_ GE116.out | refine below_set ?_ GE117.out | refine below_set ?_ GE121.out | refine below_set ?_ GE123.out) | exact HB.out))); (case side2 => exact HC120_1.out); (case side3 => exact Kd.C_below HR122_1.out (by repeat (first | (with_reducible first | exact HB.out | apply below_alloc | apply pw_below_drewN | apply below_drew1 | refine below_set ?_ GE116.out | refine below_set ?_ GE117.out | refine below_set ?_ GE121.out | refine below_set ?_ GE123.out) | exact HB.out))); (case side4 => exact HC122_1.out); rintro e w' ⟨rfl, ⟨nd, rfl⟩⟩; (try first | exact ⟨rfl, _, World.drewN_drewN _ _ _⟩ | exact ⟨rfl, _, Eq.trans (World.drewN_drewN _ _ _) (congrArg (World.drewN _) (Nat.add_assoc _ _ _))⟩))))
               go_meet
               case rel => exact ⟨_, (true), (by first | rfl | (simp; done) | (simp [*]; done)), H', ⟨by have := HJ2.out; have := HK2.out; have := HK3.out; first | omega | exact Nat.le_refl _⟩, ⟨by (with_reducible repeat (first | refine blk_drewN ?_ _ | refine blk_drew ?_ | refine blk_alloc ?_ _)); refine blk_far ?_ NB116_123.out _; (with_reducible repeat (first | refine blk_drewN ?_ _ | refine blk_drew ?_ | refine blk_alloc ?_ _)); refine blk_far ?_ NB116_123.out _; (with_reducible repeat (first | refine blk_drewN ?_ _ | refine blk_drew ?_ | refine blk_alloc ?_ _)); exact BK116.out⟩, ⟨by (with_reducible repeat (first | refine blk_drewN ?_ _ | refine blk_drew ?_ | refine blk_alloc ?_ _)); refine blk_far ?_ NB117_123.out _; (with_reducible repeat (first | refine blk_drewN ?_ _ | refine blk_drew ?_ | refine blk_alloc ?_ _)); refine blk_far ?_ NB117_123.out _; (with_reducible repeat (first | refine blk_drewN ?_ _ | refine blk_drew ?_ | refine blk_alloc ?_ _)); exact BK117.out⟩, ⟨by (with_reducible repeat (first | refine blk_drewN ?_ _ | refine blk_drew ?_ | refine blk_alloc ?_ _)); refine blk_far ?_ NB121_123.out _; (with_reducible repeat (first | refine blk_drewN ?_ _ | refine blk_drew ?_ | refine blk_alloc ?_ _)); refine blk_far ?_ NB121_123.out _; (with_reducible repeat (first | refine blk_drewN ?_ _ | refine blk_drew ?_ | refine blk_alloc ?_ _)); exact BK121.out⟩, ⟨by (with_reducible repeat (first | refine blk_drewN ?_ _ | refine blk_drew ?_ | refine blk_alloc ?_ _)); refine blk_put (cs := #[.slice A122_0 ((rd_T93 l1_1 x61_3).f0).length c122_0, .slice none 0 0]) ?_ 1 _ rfl; (with_reducible repeat (first | refine blk_drewN ?_ _ | refine blk_drew ?_ | refine blk_alloc ?_ _)); refine blk_put (cs := #[.slice none 0 0, .slice none 0 0]) ?_ 0 _ rfl; (with_reducible repeat (first | refine blk_drewN ?_ _ | refine blk_drew ?_ | refine blk_alloc ?_ _)); exact BK123.out⟩, ⟨by repeat (first | (with_reducible first | exact HB.out | apply below_alloc | apply pw_below_drewN | apply below_drew1 | refine below_set ?_ GE116.out | refine below_set ?_ GE117.out | refine below_set ?_ GE121.out | refine below_set ?_ GE123.out) | exact HB.out)⟩⟩
             case rest =>
              clear HC41
              try clear c1
              try clear p1
              try clear q1
              try clear hx1
              try clear c2
              try clear p2
              try clear c3
              try clear c4
              try clear c5
              try clear c6
              try clear c6b0
              try clear c6b1
              try clear c6b2
              try clear p6
              try clear c7
              try clear c7b0
              try clear c7b1
              try clear c7b2
              try clear c8
              try clear c8b0
              try clear c8b1
              try clear c9
              try clear p11
              try clear q11
              try clear hx11
              try clear c12
              try clear p12
              try clear q12
              try clear hx12
              try clear c15
              try clear c18
              try clear c21
              try clear c22
              try clear c24
              try clear c24b0
              try clear c25
              try clear c25b0
              try clear c26
              try clear c26b0
              try clear c27
              try clear c27b0
              try clear c28
              try clear c28b0
              try clear c29
              try clear c32
              try clear c35
              try clear c37
              try clear c37b0
              try clear c38
              try clear c38b0
              try clear c39
              try clear c39b0
              try clear c40
              try clear c40b0
              try clear c43
              try clear c44
              try clear c46
              try clear c49
              try clear c50
              try clear c51
              try clear c54
              try clear c55
              try clear c56
              try clear c57
              try clear c59
              try clear c60
              try clear c62
              try clear c63
              try clear c64
              try clear p64
              try clear c66
              try clear c67
              try clear hcz10_0 hcz10_1 hcz10_2 hcz10_3
              try clear hcz11_0 hcz11_1 hcz11_2 hcz11_3
              try clear hcz13_0 hcz13_1 hcz13_2 hcz13_3
              try clear hcz14_0 hcz14_1 hcz14_2 hcz14_3
              try clear hcz16_0 hcz16_1 hcz16_2 hcz16_3
              try clear hcz17_0 hcz17_1 hcz17_2 hcz17_3
              try clear hcz19_0 hcz19_1 hcz19_2 hcz19_3
              try clear hcz20_0 hcz20_1 hcz20_2 hcz20_3
              try clear hcz23_0 hcz23_1 hcz23_2 hcz23_3
              try clear hcz30_0 hcz30_1 hcz30_2 hcz30_3
              try clear hcz31_0 hcz31_1 hcz31_2 hcz31_3
              try clear hcz33_0 hcz33_1 hcz33_2 hcz33_3
              try clear hcz34_0 hcz34_1 hcz34_2 hcz34_3
              try clear hcz36_0 hcz36_1 hcz36_2 hcz36_3
              try clear hcz45_0 hcz45_1
              try clear hcz47_0 hcz47_1 hcz47_2 hcz47_3
              try clear hcz52_0 hcz52_1
              try clear hcz58_0 hcz58_1
              try clear hcz61_0 hcz61_1
              try clear hcz65_0 hcz65_1
              try clear hcz68_0 hcz68_1
              try clear hfz10_0 hfz10_1 hfz10_2 hfz10_3
              try clear hfz11_0 hfz11_1 hfz11_2 hfz11_3
              try clear hfz13_0 hfz13_1 hfz13_2 hfz13_3
              try clear hfz14_0 hfz14_1 hfz14_2 hfz14_3
              try clear hfz16_0 hfz16_1 hfz16_2 hfz16_3
              try clear hfz17_0 hfz17_1 hfz17_2 hfz17_3
              try clear hfz19_0 hfz19_1 hfz19_2 hfz19_3
              try clear hfz20_0 hfz20_1 hfz20_2 hfz20_3
              try clear hfz23_0 hfz23_1 hfz23_2 hfz23_3
              try clear hfz30_0 hfz30_1 hfz30_2 hfz30_3
              try clear hfz31_0 hfz31_1 hfz31_2 hfz31_3
              try clear hfz33_0 hfz33_1 hfz33_2 hfz33_3
              try clear hfz34_0 hfz34_1 hfz34_2 hfz34_3
              try clear hfz36_0 hfz36_1 hfz36_2 hfz36_3
              try clear hfz45_0 hfz45_1
              try clear hfz47_0 hfz47_1 hfz47_2 hfz47_3
              try clear hfz52_0 hfz52_1
              try clear hfz58_0 hfz58_1
              try clear hfz61_0 hfz61_1
              try clear hfz65_0 hfz65_1
              try clear hfz68_0 hfz68_1
              try clear hx118_0
              try clear hx118_1
              try clear hx118_2
              try clear hx118_3
              try clear hx118_4
              try clear hx118_5
              try clear hx118_6
              try clear hx118_7
              try clear hx118_8
              try clear hx119_0
              try clear hx119_1
              try clear hx119_2
              try clear hx119_3
              try clear hx119_4
              try clear hx119_5
              try clear hx119_6
              try clear hx119_7
              try clear hx119_8
              try clear hx120_0
              try clear hx120_1
              try clear hx122_0
              try clear hx122_1
              try clear p1
              try clear p11
              try clear p118
              try clear p119
              try clear p120
              try clear p122
              try clear p2
              try clear p6
              try clear q1
              try clear q11
              try clear q118
              try clear q119
              try clear q120
              try clear q122
              obtain ⟨kq, x85_40, rfl, HA, HJ40, BK116, BK117, BK121, BK123, HB⟩ := hcut
              cases kq with
              | zero => exact absurd HA.out (by simp [foghornref13_Same.j3])
              | succ kj40 =>
               have H := HA.out
               clear HA
               simp only [foghornref13_Same.j3] at H
               by_cases c69 : x85_40 = true
               ·subst c69
                have H1 : (some false) = some r := by rw [if_pos rfl] at H; exact H
                clear H
                have H := H1
                clear H1
                obtain rfl := Option.some.inj H
                go_wp2
                repeat (go_quiet (fail); try go_wp2)
                go_ret
                exact ⟨by first | rfl | (simp [errW_none, errW_some] <;> rfl) | (simp [*, errW_none, errW_some] <;> rfl), by repeat (first | (with_reducible first | exact HB.out | apply below_alloc | apply pw_below_drewN | apply below_drew1 | refine below_set ?_ GE116.out | refine below_set ?_ GE117.out | refine below_set ?_ GE121.out | refine below_set ?_ GE123.out) | exact HB.out)⟩
               ·replace c69 := Bool.eq_false_iff.mpr c69
                subst c69
                have H1 : (foghornref13_Same.l2 kj40 l0_1 (l0_1.length : Int) x61_3 (((rd_T93 l0_1 x61_3).f0).length : Int) 0 l1_0 l1_1 a1_2 a1_3 ((rd_T93 l0_1 x61_3).f0) ((rd_T93 l0_1 x61_3).f1) ((rd_T93 l1_1 x61_3).f0) ((rd_T93 l1_1 x61_3).f1)) = some r := by rw [if_neg (show ¬ (false = true) by decide)] at H; exact H
                clear H
                have H := H1
                clear H1
                have H' := aA H
                clear H
                have hnb70 := NB121_116.out
                have hnc70 := NB116_121.out
                have hnb71 := NB121_117.out
                have hnc71 := NB117_121.out
                have hnb72 := NB121_123.out
                have hnc72 := NB123_121.out
                obtain ⟨hcz73_0, hcz73_1⟩ := bC2 BK121.out
                obtain ⟨hfz73_0, hfz73_1⟩ := bF2 BK121.out
                go_wp2
                repeat (go_quiet (fail); try go_wp2)
                go_loopg [89] kj40 (fun kq v89 w' => ∃ (x89_5 : Int), v89 = .int .i64 x89_5 ∧ Aside0 (foghornref13_Same.l2 kq l0_1 (l0_1.length : Int) x61_3 (((rd_T93 l0_1 x61_3).f0).length : Int) x89_5 l1_0 l1_1 a1_2 a1_3 ((rd_T93 l0_1 x61_3).f0) ((rd_T93 l0_1 x61_3).f1) ((rd_T93 l1_1 x61_3).f0) ((rd_T93 l1_1 x61_3).f1) = some r) ∧ Aside0 (kq ≤ kj40) ∧ Aside0 (w'.heap[gb116]? = some (.cells #[(.slice A0_0 l0_0.length c0_0), (.slice (some ad120) l0_1.length c0_1), .int .i64 a0_2, .int .i64 a0_3] 57 (0, 0))) ∧ Aside0 (w'.heap[gb117]? = some (.cells #[(.slice A1_0 l1_0.length c1_0), (.slice (some ad122) l1_1.length c1_1), .int .i64 a1_2, .int .i64 a1_3] 57 (0, 0))) ∧ Aside0 (w'.heap[gb121]? = some (.cells #[(.slice A120_0 ((rd_T93 l0_1 x61_3).f0).length c120_0), (.slice A120_1 ((rd_T93 l0_1 x61_3).f1).length c120_1)] 93 (0, 0))) ∧ Aside0 (w'.heap[gb123]? = some (.cells #[(.slice A122_0 ((rd_T93 l1_1 x61_3).f0).length c122_0), (.slice A122_1 ((rd_T93 l1_1 x61_3).f1).length c122_1)] 93 (0, 0))) ∧ Aside0 (Below w.heap.size w w'))
                case atStart => exact ⟨(0), (by first | rfl | (simp; done) | (simp [*]; done)), H', ⟨Nat.le_refl _⟩, ⟨by (with_reducible repeat (first | refine blk_drewN ?_ _ | refine blk_drew ?_ | refine blk_alloc ?_ _)); exact BK116.out⟩, ⟨by (with_reducible repeat (first | refine blk_drewN ?_ _ | refine blk_drew ?_ | refine blk_alloc ?_ _)); exact BK117.out⟩, ⟨by (with_reducible repeat (first | refine blk_drewN ?_ _ | refine blk_drew ?_ | refine blk_alloc ?_ _)); exact BK121.out⟩, ⟨by (with_reducible repeat (first | refine blk_drewN ?_ _ | refine blk_drew ?_ | refine blk_alloc ?_ _)); exact BK123.out⟩, ⟨by repeat (first | (with_reducible first | exact HB.out | apply below_alloc | apply pw_below_drewN | apply below_drew1 | refine below_set ?_ GE116.out | refine below_set ?_ GE117.out | refine below_set ?_ GE121.out | refine below_set ?_ GE123.out) | exact HB.out)⟩⟩
                case round =>
                 clear H'
                 try clear c1
                 try clear p1
                 try clear q1
                 try clear hx1
                 try clear c2
                 try clear p2
                 try clear c3
                 try clear c4
                 try clear c5
                 try clear c6
                 try clear c6b0
                 try clear c6b1
                 try clear c6b2
                 try clear p6
                 try clear c7
                 try clear c7b0
                 try clear c7b1
                 try clear c7b2
                 try clear c8
                 try clear c8b0
                 try clear c8b1
                 try clear c9
                 try clear p11
                 try clear q11
                 try clear hx11
                 try clear c12
                 try clear p12
                 try clear q12
                 try clear hx12
                 try clear c15
                 try clear c18
                 try clear c21
                 try clear c22
                 try clear c24
                 try clear c24b0
                 try clear c25
                 try clear c25b0
                 try clear c26
                 try clear c26b0
                 try clear c27
                 try clear c27b0
                 try clear c28
                 try clear c28b0
                 try clear c29
                 try clear c32
                 try clear c35
                 try clear c37
                 try clear c37b0
                 try clear c38
                 try clear c38b0
                 try clear c39
                 try clear c39b0
                 try clear c40
                 try clear c40b0
                 try clear c43
                 try clear c44
                 try clear c46
                 try clear c49
                 try clear c50
                 try clear c51
                 try clear c54
                 try clear c55
                 try clear c56
                 try clear c57
                 try clear c59
                 try clear c60
                 try clear c62
                 try clear c63
                 try clear c64
                 try clear p64
                 try clear c66
                 try clear c67
                 try clear c69
                 try clear c70
                 try clear c71
                 try clear c72
                 try clear hcz10_0 hcz10_1 hcz10_2 hcz10_3
                 try clear hcz11_0 hcz11_1 hcz11_2 hcz11_3
                 try clear hcz13_0 hcz13_1 hcz13_2 hcz13_3
                 try clear hcz14_0 hcz14_1 hcz14_2 hcz14_3
                 try clear hcz16_0 hcz16_1 hcz16_2 hcz16_3
                 try clear hcz17_0 hcz17_1 hcz17_2 hcz17_3
                 try clear hcz19_0 hcz19_1 hcz19_2 hcz19_3
                 try clear hcz20_0 hcz20_1 hcz20_2 hcz20_3
                 try clear hcz23_0 hcz23_1 hcz23_2 hcz23_3
                 try clear hcz30_0 hcz30_1 hcz30_2 hcz30_3
                 try clear hcz31_0 hcz31_1 hcz31_2 hcz31_3
                 try clear hcz33_0 hcz33_1 hcz33_2 hcz33_3
                 try clear hcz34_0 hcz34_1 hcz34_2 hcz34_3
                 try clear hcz36_0 hcz36_1 hcz36_2 hcz36_3
                 try clear hcz45_0 hcz45_1
                 try clear hcz47_0 hcz47_1 hcz47_2 hcz47_3
                 try clear hcz52_0 hcz52_1
                 try clear hcz58_0 hcz58_1
                 try clear hcz61_0 hcz61_1
                 try clear hcz65_0 hcz65_1
                 try clear hcz68_0 hcz68_1
                 try clear hcz73_0 hcz73_1
                 try clear hfz10_0 hfz10_1 hfz10_2 hfz10_3
                 try clear hfz11_0 hfz11_1 hfz11_2 hfz11_3
                 try clear hfz13_0 hfz13_1 hfz13_2 hfz13_3
                 try clear hfz14_0 hfz14_1 hfz14_2 hfz14_3
                 try clear hfz16_0 hfz16_1 hfz16_2 hfz16_3
                 try clear hfz17_0 hfz17_1 hfz17_2 hfz17_3
                 try clear hfz19_0 hfz19_1 hfz19_2 hfz19_3
                 try clear hfz20_0 hfz20_1 hfz20_2 hfz20_3
                 try clear hfz23_0 hfz23_1 hfz23_2 hfz23_3
                 try clear hfz30_0 hfz30_1 hfz30_2 hfz30_3
                 try clear hfz31_0 hfz31_1 hfz31_2 hfz31_3
                 try clear hfz33_0 hfz33_1 hfz33_2 hfz33_3
                 try clear hfz34_0 hfz34_1 hfz34_2 hfz34_3
                 try clear hfz36_0 hfz36_1 hfz36_2 hfz36_3
                 try clear hfz45_0 hfz45_1
                 try clear hfz47_0 hfz47_1 hfz47_2 hfz47_3
                 try clear hfz52_0 hfz52_1
                 try clear hfz58_0 hfz58_1
                 try clear hfz61_0 hfz61_1
                 try clear hfz65_0 hfz65_1
                 try clear hfz68_0 hfz68_1
                 try clear hfz73_0 hfz73_1
                 try clear hx118_0
                 try clear hx118_1
                 try clear hx118_2
                 try clear hx118_3
                 try clear hx118_4
                 try clear hx118_5
                 try clear hx118_6
                 try clear hx118_7
                 try clear hx118_8
                 try clear hx119_0
                 try clear hx119_1
                 try clear hx119_2
                 try clear hx119_3
                 try clear hx119_4
                 try clear hx119_5
                 try clear hx119_6
                 try clear hx119_7
                 try clear hx119_8
                 try clear hx120_0
                 try clear hx120_1
                 try clear hx122_0
                 try clear hx122_1
                 try clear p1
                 try clear p11
                 try clear p118
                 try clear p119
                 try clear p12
                 try clear p120
                 try clear p122
                 try clear p2
                 try clear p6
                 try clear p64
                 try clear q1
                 try clear q11
                 try clear q118
                 try clear q119
                 try clear q12
                 try clear q120
                 try clear q122
                 obtain ⟨x89_5, rfl, HA, HK5, BK116, BK117, BK121, BK123, HB⟩ := hrel
                 cases gk with
                 | zero => exact absurd HA.out (by simp [foghornref13_Same.l2])
                 | succ k5 =>
                  have H := HA.out
                  clear HA
                  simp only [foghornref13_Same.l2] at H
                  by_cases c74 : x89_5 < (((rd_T93 l0_1 x61_3).f0).length : Int)
                  ·rw [if_pos c74] at H
                   have c74b0 : decide (x89_5 < (((rd_T93 l0_1 x61_3).f0).length : Int)) = true := decide_eq_true c74
                   clear c74
                   by_cases c75 : 0 ≤ x89_5
                   ·rw [if_pos c75] at H
                    have c75b0 : decide (0 ≤ x89_5) = true := decide_eq_true c75
                    clear c75
                    by_cases c76 : x89_5 < (((rd_T93 l0_1 x61_3).f0).length : Int)
                    ·rw [if_pos c76] at H
                     have c76b0 : decide (x89_5 < (((rd_T93 l0_1 x61_3).f0).length : Int)) = true := decide_eq_true c76
                     clear c76
                     by_cases c77 : x89_5 < (((rd_T93 l1_1 x61_3).f0).length : Int)
                     ·rw [if_pos c77] at H
                      have c77b0 : decide (x89_5 < (((rd_T93 l1_1 x61_3).f0).length : Int)) = true := decide_eq_true c77
                      clear c77
                      by_cases c78 : (rd ((rd_T93 l0_1 x61_3).f0) x89_5) = (rd ((rd_T93 l1_1 x61_3).f0) x89_5)
                      ·rw [if_pos c78] at H
                       have c78b0 : ((rd ((rd_T93 l0_1 x61_3).f0) x89_5) == (rd ((rd_T93 l1_1 x61_3).f0) x89_5)) = true := beq_iff_eq.mpr c78
                       have c78b1 : ((rd ((rd_T93 l0_1 x61_3).f0) x89_5) != (rd ((rd_T93 l1_1 x61_3).f0) x89_5)) = false := bne_eq_false_iff_eq.mpr c78
                       clear c78
                       have H' := aA H
                       clear H
                       have hnb79 := NB121_116.out
                       have hnc79 := NB116_121.out
                       have hnb80 := NB121_117.out
                       have hnc80 := NB117_121.out
                       have hnb81 := NB121_123.out
                       have hnc81 := NB123_121.out
                       obtain ⟨hcz82_0, hcz82_1⟩ := bC2 BK121.out
                       obtain ⟨hfz82_0, hfz82_1⟩ := bF2 BK121.out
                       have p125 : 0 ≤ (x89_5 : Int) := of_decide_eq_true (by first | (with_reducible assumption) | assumption)
                       have q125 : x89_5 < (((rd_T93 l0_1 x61_3).f0).length : Int) := of_decide_eq_true (by first | (with_reducible assumption) | assumption)
                       obtain ⟨ad125, e125, hx125_0⟩ := Kd.at_int HR120_0.out x89_5 p125 q125
                       cases e125
                       replace hx125_0 := (HB.out.cell (World.block_lt_of_cell? w _ hx125_0)).trans hx125_0
                       replace p125 := eq_true p125
                       replace q125 := eq_true q125
                       have hnb83 := NB123_116.out
                       have hnc83 := NB116_123.out
                       have hnb84 := NB123_117.out
                       have hnc84 := NB117_123.out
                       obtain ⟨hcz85_0, hcz85_1⟩ := bC2 BK123.out
                       obtain ⟨hfz85_0, hfz85_1⟩ := bF2 BK123.out
                       have p126 : 0 ≤ (x89_5 : Int) := of_decide_eq_true (by first | (with_reducible assumption) | assumption)
                       have q126 : x89_5 < (((rd_T93 l1_1 x61_3).f0).length : Int) := of_decide_eq_true (by first | (with_reducible assumption) | assumption)
                       obtain ⟨ad126, e126, hx126_0⟩ := Kd.at_int HR122_0.out x89_5 p126 q126
                       cases e126
                       replace hx126_0 := (HB.out.cell (World.block_lt_of_cell? w _ hx126_0)).trans hx126_0
                       replace p126 := eq_true p126
                       replace q126 := eq_true q126
                       go_wp2
                       repeat (go_quiet (fail); try go_wp2)
                       go_roundg k5
                       case measure => have := HJ2.out; have := HK2.out; have := HK3.out; have := HJ40.out; have := HK5.out; omega
                       case rel => exact ⟨(wrap64 (x89_5 + 1)), (by first | rfl | (simp; done) | (simp [*]; done)), H', ⟨by have := HJ2.out; have := HK2.out; have := HK3.out; have := HJ40.out; have := HK5.out; omega⟩, ⟨by (with_reducible repeat (first | refine blk_drewN ?_ _ | refine blk_drew ?_ | refine blk_alloc ?_ _)); exact BK116.out⟩, ⟨by (with_reducible repeat (first | refine blk_drewN ?_ _ | refine blk_drew ?_ | refine blk_alloc ?_ _)); exact BK117.out⟩, ⟨by (with_reducible repeat (first | refine blk_drewN ?_ _ | refine blk_drew ?_ | refine blk_alloc ?_ _)); exact BK121.out⟩, ⟨by (with_reducible repeat (first | refine blk_drewN ?_ _ | refine blk_drew ?_ | refine blk_alloc ?_ _)); exact BK123.out⟩, ⟨by repeat (first | (with_reducible first | exact HB.out | apply below_alloc | apply pw_below_drewN | apply below_drew1 | refine below_set ?_ GE116.out | refine below_set ?_ GE117.out | refine below_set ?_ GE121.out | refine below_set ?_ GE123.out) | exact HB.out)⟩⟩
                      ·rw [if_neg c78] at H
                       have c78b0 : ((rd ((rd_T93 l0_1 x61_3).f0) x89_5) == (rd ((rd_T93 l1_1 x61_3).f0) x89_5)) = false := beq_eq_false_iff_ne.mpr c78
                       have c78b1 : ((rd ((rd_T93 l0_1 x61_3).f0) x89_5) != (rd ((rd_T93 l1_1 x61_3).f0) x89_5)) = true := bne_iff_ne.mpr c78
                       obtain rfl := Option.some.inj H
                       have hnb86 := NB121_116.out
                       have hnc86 := NB116_121.out
                       have hnb87 := NB121_117.out
                       have hnc87 := NB117_121.out
                       have hnb88 := NB121_123.out
                       have hnc88 := NB123_121.out
                       obtain ⟨hcz89_0, hcz89_1⟩ := bC2 BK121.out
                       obtain ⟨hfz89_0, hfz89_1⟩ := bF2 BK121.out
                       have p125 : 0 ≤ (x89_5 : Int) := of_decide_eq_true (by first | (with_reducible assumption) | assumption)
                       have q125 : x89_5 < (((rd_T93 l0_1 x61_3).f0).length : Int) := of_decide_eq_true (by first | (with_reducible assumption) | assumption)
                       obtain ⟨ad125, e125, hx125_0⟩ := Kd.at_int HR120_0.out x89_5 p125 q125
                       cases e125
                       replace hx125_0 := (HB.out.cell (World.block_lt_of_cell? w _ hx125_0)).trans hx125_0
                       replace p125 := eq_true p125
                       replace q125 := eq_true q125
                       have hnb90 := NB123_116.out
                       have hnc90 := NB116_123.out
                       have hnb91 := NB123_117.out
                       have hnc91 := NB117_123.out
                       obtain ⟨hcz92_0, hcz92_1⟩ := bC2 BK123.out
                       obtain ⟨hfz92_0, hfz92_1⟩ := bF2 BK123.out
                       have p126 : 0 ≤ (x89_5 : Int) := of_decide_eq_true (by first | (with_reducible assumption) | assumption)
                       have q126 : x89_5 < (((rd_T93 l1_1 x61_3).f0).length : Int) := of_decide_eq_true (by first | (with_reducible assumption) | assumption)
                       obtain ⟨ad126, e126, hx126_0⟩ := Kd.at_int HR122_0.out x89_5 p126 q126
                       cases e126
                       replace hx126_0 := (HB.out.cell (World.block_lt_of_cell? w _ hx126_0)).trans hx126_0
                       replace p126 := eq_true p126
                       replace q126 := eq_true q126
                       go_wp2
                       repeat (go_quiet (fail); try go_wp2)
                       go_ret
                       exact ⟨by first | rfl | (simp [errW_none, errW_some] <;> rfl) | (simp [*, errW_none, errW_some] <;> rfl), by repeat (first | (with_reducible first | exact HB.out | apply below_alloc | apply pw_below_drewN | apply below_drew1 | refine below_set ?_ GE116.out | refine below_set ?_ GE117.out | refine below_set ?_ GE121.out | refine below_set ?_ GE123.out) | exact HB.out)⟩
                     ·rw [if_neg c77] at H
                      exact absurd H (by simp)
                    ·rw [if_neg c76] at H
                     exact absurd H (by simp)
                   ·rw [if_neg c75] at H
                    exact absurd H (by simp)
                  ·rw [if_neg c74] at H
                   have c74b0 : decide (x89_5 < (((rd_T93 l0_1 x61_3).f0).length : Int)) = false := decide_eq_false c74
                   clear c74
                   have H' := aA H
                   clear H
                   go_wp2
                   repeat (go_quiet (fail); try go_wp2)
                   go_roundg k5
                   case measure => have := HJ2.out; have := HK2.out; have := HK3.out; have := HJ40.out; have := HK5.out; omega
                   case rel => exact ⟨(wrap64 (x61_3 + 1)), (by first | rfl | (simp; done) | (simp [*]; done)), H', ⟨by have := HJ2.out; have := HK2.out; have := HK3.out; have := HJ40.out; have := HK5.out; omega⟩, ⟨by (with_reducible repeat (first | refine blk_drewN ?_ _ | refine blk_drew ?_ | refine blk_alloc ?_ _)); exact BK116.out⟩, ⟨by (with_reducible repeat (first | refine blk_drewN ?_ _ | refine blk_drew ?_ | refine blk_alloc ?_ _)); exact BK117.out⟩, ⟨by repeat (first | (with_reducible first | exact HB.out | apply below_alloc | apply pw_below_drewN | apply below_drew1 | refine below_set ?_ GE116.out | refine below_set ?_ GE117.out | refine below_set ?_ GE121.out | refine below_set ?_ GE123.out) | exact HB.out)⟩⟩
            ·rw [if_neg c40] at H
             exact absurd H (by simp)
           ·rw [if_neg c39] at H
            exact absurd H (by simp)
          ·rw [if_neg c38] at H
           exact absurd H (by simp)
         ·rw [if_neg c37] at H
          have c37b0 : decide (x61_3 < (l0_1.length : Int)) = false := decide_eq_false c37
          clear c37
          obtain rfl := Option.some.inj H
          go_wp2
          repeat (go_quiet (fail); try go_wp2)
          go_ret
          exact ⟨by first | rfl | (simp [errW_none, errW_some] <;> rfl) | (simp [*, errW_none, errW_some] <;> rfl), by repeat (first | (with_reducible first | exact HB.out | apply below_alloc | apply pw_below_drewN | apply below_drew1 | refine below_set ?_ GE116.out | refine below_set ?_ GE117.out) | exact HB.out)⟩
end Go.Proofs.YtjfknmlchdifjaaGreatDoorQ.P
namespace Go.Proofs.YtjfknmlchdifjaaGreatDoorQ.P
open Go.RowKit Go.Proofs.YtjfknmlchdifjaaGreatDoorW.PrintWords Go.Proofs.YtjfknmlchdifjaaGreatDoorW.PrintLast Go.Proofs.YtjfknmlchdifjaaGreatDoorW.PrintMore
attribute [local go_sem] max2_int min2_int max_two min_two max_three min_three max_four min_four
def foghornref12_Digits.f : Nat → Int → Option (ByteArray)
 | 0, _ => none
 | k + 1, a0 => if a0 < 10 then (some (strOfNums (([(wrap64 (48 + a0)) % 256] : List Int)))) else ((foghornref12_Digits.f k (wrap64 (Int.tdiv a0 10))).bind fun t187 => ((foghornref12_Digits.f k (Int.tmod a0 10)).bind fun t188 => (if t187.size + t188.size ≤ 9223372036854775807 then (some (t187 ++ t188)) else (none))))
set_option maxHeartbeats 8000000 in
set_option maxRecDepth 100000 in
theorem foghornref12_Digits.calls (k : Nat) : ∀ (a0 : Int) (r : ByteArray) (w : World) (h : foghornref12_Digits.f k a0 = some r),
  Calls Tryz.prog 53 #[.int .i64 a0] w fun e w' => e = .returned (.string r) ∧ Below w.heap.size w w' := by
 induction k using Nat.strongRecOn with
 | _ k ih =>
 intro a0 r w h
 cases k with
 | zero => exact absurd h (by simp [foghornref12_Digits.f])
 | succ k =>
 simp only [foghornref12_Digits.f] at h
 have HB := aA (Below.refl w.heap.size w)
 have H : (if a0 < 10 then (some (strOfNums (([(wrap64 (48 + a0)) % 256] : List Int)))) else ((foghornref12_Digits.f k (wrap64 (Int.tdiv a0 10))).bind fun t187 => ((foghornref12_Digits.f k (Int.tmod a0 10)).bind fun t188 => (if t187.size + t188.size ≤ 9223372036854775807 then (some (t187 ++ t188)) else (none))))) = some r := h
 clear h
 by_cases c2 : a0 < 10
 ·rw [if_pos c2] at H
  have c2b0 : decide (a0 < 10) = true := decide_eq_true c2
  clear c2
  obtain ⟨y184, hy184⟩ : ∃ y_ : List Int, y_ = (([(wrap64 (48 + a0)) % 256] : List Int)) := ⟨_, rfl⟩
  replace H : (some (strOfNums y184)) = some r := by first | (rw [hy184]; with_reducible exact H) | (have H2_ := (Option.bind_some _ _).symm.trans H; rw [hy184]; with_reducible exact H2_) | (have H2_ := (Option.bind_some _ _).symm.trans H; with_reducible exact H2_) | with_reducible exact H | (rw [hy184]; exact H) | exact H
  have Ny184 := aA hy184
  clear hy184
  obtain rfl := Option.some.inj H
  go_enter Tryz.func53, Tryz.ntmps53
  go_wp2_with (first | ((with_reducible refine gate_dst (N := 8) rfl ?_); refine Kd.R_lit (Kd.int .u8) _ 5 ?hg (N := 8) ?hd (xs := ([(wrap64 (48 + a0)) % 256] : List Int)) (inner := [.int .u8 ((wrap64 (48 + a0)) % 256)]) (ok := fun _ => True) (okp := fun _ => True) ?hr ?hp (fun _ hk => hk) trivial (Below.refl _ _) (Nat.le_refl _) (by simp) ?_; (case hd => rfl); (case hg => rfl); (case hr => first | (go_simp; done) | (go_simp; rfl)); (case hp => exact (Reps.one (show Kd.M (Kd.int .u8) _ _ _ ((wrap64 (48 + a0)) % 256) [.int .u8 ((wrap64 (48 + a0)) % 256)] from rfl) (Reps.none _ _))); intro v185 w3 ho4 hb hg_ hnew_; clear hg_ hnew_; (first | rw [← Ny184.out] at ho4 | (simp only [Int.reduceToNat] at ho4; rw [← Ny184.out] at ho4)); have n0_ := aA (Kd.R_lower ho4 (below_size mB)); have n1_ := aA (below_step mB hb); clear HB; have HO186 := n0_; have HB := n1_; clear n0_ n1_ hb ho4; have hcv5 := own_string (P := Tryz.prog) Tryz.underlying96 Tryz.underlying5 Tryz.underlying9 (Kd.own_of_R HO186.out)))
  go_ret
  exact ⟨by first | rfl | (simp [errW_none, errW_some] <;> rfl) | (simp [*, errW_none, errW_some] <;> rfl), by repeat (first | (with_reducible first | exact HB.out | apply below_alloc | apply pw_below_drewN | apply below_drew1) | exact HB.out)⟩
 ·rw [if_neg c2] at H
  have c2b0 : decide (a0 < 10) = false := decide_eq_false c2
  clear c2
  replace H := Option.bind_eq_some_iff.mp H
  obtain ⟨t187, A60, H⟩ := H
  have A6 := aA A60
  clear A60
  replace H := Option.bind_eq_some_iff.mp H
  obtain ⟨t188, A70, H⟩ := H
  have A7 := aA A70
  clear A70
  by_cases c8 : t187.size + t188.size ≤ 9223372036854775807
  ·rw [if_pos c8] at H
   have c8b0 := eq_true c8
   have c8b1 := decide_eq_true c8
   try have c8b2 : (9223372036854775807 < t187.size + t188.size) = False := eq_false (Nat.not_lt.2 c8)
   obtain rfl := Option.some.inj H
   go_enter Tryz.func53, Tryz.ntmps53
   go_wp2_with (first | ((with_reducible refine gate_callee (f := 53) rfl ?_); refine goesL_ (some 12) rfl rfl Tryz.func53 (by kernel_rfl) rfl #[.int .i64 (wrap64 (Int.tdiv a0 10))] rfl mS ?_; (with_reducible refine (ih k (by omega) (wrap64 (Int.tdiv a0 10)) t187 _ A6.out).mono ?_); rintro e w9 ⟨rfl, hb⟩; refine ⟨_, rfl, ?_⟩; have n0_ := aA (below_step mB hb); clear HB; have HB := n0_; clear n0_; (try clear hb); (try clear hb2); (try clear hk); (try clear hi)) | ((with_reducible refine gate_callee (f := 53) rfl ?_); refine goesL_ (some 15) rfl rfl Tryz.func53 (by kernel_rfl) rfl #[.int .i64 (Int.tmod a0 10)] rfl mS ?_; (with_reducible refine (ih k (by omega) (Int.tmod a0 10) t188 _ A7.out).mono ?_); rintro e w10 ⟨rfl, hb⟩; refine ⟨_, rfl, ?_⟩; have n0_ := aA (below_step mB hb); clear HB; have HB := n0_; clear n0_; (try clear hb); (try clear hb2); (try clear hk); (try clear hi)))
   go_ret
   exact ⟨by first | rfl | (simp [errW_none, errW_some] <;> rfl) | (simp [*, errW_none, errW_some] <;> rfl), by repeat (first | (with_reducible first | exact HB.out | apply below_alloc | apply pw_below_drewN | apply below_drew1) | exact HB.out)⟩
  ·rw [if_neg c8] at H
   exact absurd H (by simp)
end Go.Proofs.YtjfknmlchdifjaaGreatDoorQ.P
namespace Go.Proofs.YtjfknmlchdifjaaGreatDoorQ.P
open Go.RowKit Go.Proofs.YtjfknmlchdifjaaGreatDoorW.PrintWords Go.Proofs.YtjfknmlchdifjaaGreatDoorW.PrintLast Go.Proofs.YtjfknmlchdifjaaGreatDoorW.PrintMore
attribute [local go_sem] max2_int min2_int max_two min_two max_three min_three max_four min_four
def foghornref12_Number.l0 : Nat → ByteArray → Int → Int → Option (Int × Bool)
 | 0, _, _, _ => none
 | k + 1, x0, x4, x5 => if x5 < (x0.size : Int) then (if 0 ≤ x5 then (if (bt x0 x5) < 48 then (some (0, false)) else (if (bt x0 x5) > 57 then (some (0, false)) else (if x4 > 1099511627776 then (some (0, false)) else (foghornref12_Number.l0 k x0 (wrap64 ((wrap64 (10 * x4)) + (((bt x0 x5) - 48) % 256))) (wrap64 (x5 + 1)))))) else (none)) else (if x0.toList = ([] : List UInt8) then (some (x4, false)) else (if x4 ≤ 1099511627776 then ((foghornref12_Digits.f k x4).bind fun t347 => (some (x4, (t347.toList == x0.toList)))) else (some (x4, false))))
def foghornref12_Number.f (k : Nat) (a0 : ByteArray) : Option (Int × Bool) := foghornref12_Number.l0 k a0 0 0
set_option maxHeartbeats 8000000 in
set_option maxRecDepth 100000 in
theorem foghornref12_Number.calls (k : Nat) (a0 : ByteArray) (r1 : Int) (r2 : Bool) (w : World) (h : foghornref12_Number.f k a0 = some (r1, r2)) :
  Calls Tryz.prog 79 #[.string a0] w fun e w' => e = .returned (.tuple #[.int .i64 r1, .bool r2]) ∧ Below w.heap.size w w' := by
 have HB := aA (Below.refl w.heap.size w)
 have H : (foghornref12_Number.l0 k a0 0 0) = some (r1, r2) := h
 clear h
 have H' := aA H
 clear H
 go_enter Tryz.func79, Tryz.ntmps79
 go_wp2
 go_loopg [4, 5] k (fun kq v4 v5 w' => ∃ (x4_1 : Int) (x5_1 : Int), v4 = .int .i64 x4_1 ∧ v5 = .int .i64 x5_1 ∧ Aside0 (foghornref12_Number.l0 kq a0 x4_1 x5_1 = some (r1, r2)) ∧ Aside0 (kq ≤ k) ∧ Aside0 (Below w.heap.size w w'))
 case atStart => exact ⟨(0), (0), (by first | rfl | (simp; done) | (simp [*]; done)), (by first | rfl | (simp; done) | (simp [*]; done)), H', ⟨Nat.le_refl _⟩, ⟨by repeat (first | (with_reducible first | exact HB.out | apply below_alloc | apply pw_below_drewN | apply below_drew1) | exact HB.out)⟩⟩
 case round =>
  clear H'
  obtain ⟨x4_1, x5_1, rfl, rfl, HA, HK1, HB⟩ := hrel
  cases gk with
  | zero => exact absurd HA.out (by simp [foghornref12_Number.l0])
  | succ k1 =>
   have H := HA.out
   clear HA
   simp only [foghornref12_Number.l0] at H
   by_cases c2 : x5_1 < (a0.size : Int)
   ·rw [if_pos c2] at H
    have c2b0 : decide (x5_1 < (a0.size : Int)) = true := decide_eq_true c2
    clear c2
    by_cases c3 : 0 ≤ x5_1
    ·rw [if_pos c3] at H
     have c3b0 : decide (0 ≤ x5_1) = true := decide_eq_true c3
     clear c3
     by_cases c5 : (bt a0 x5_1) < 48
     ·rw [if_pos c5] at H
      have c5b0 : decide ((bt a0 x5_1) < 48) = true := decide_eq_true c5
      clear c5
      simp only [Option.some.injEq, Prod.mk.injEq] at H
      obtain ⟨rfl, rfl⟩ := H
      have p4 : 0 ≤ (x5_1 : Int) := of_decide_eq_true (by first | (with_reducible assumption) | assumption)
      have q4 : x5_1 < (a0.size : Int) := of_decide_eq_true (by first | (with_reducible assumption) | assumption)
      have hx4 := bt_at a0 x5_1
      replace p4 := eq_true p4
      replace q4 := eq_true q4
      go_wp2
      go_ret2
      exact ⟨by first | rfl | (simp [errW_none, errW_some] <;> rfl) | (simp [*, errW_none, errW_some] <;> rfl), by repeat (first | (with_reducible first | exact HB.out | apply below_alloc | apply pw_below_drewN | apply below_drew1) | exact HB.out)⟩
     ·rw [if_neg c5] at H
      have c5b0 : decide ((bt a0 x5_1) < 48) = false := decide_eq_false c5
      clear c5
      by_cases c7 : (bt a0 x5_1) > 57
      ·rw [if_pos c7] at H
       have c7b0 : decide (57 < (bt a0 x5_1)) = true := decide_eq_true c7
       clear c7
       simp only [Option.some.injEq, Prod.mk.injEq] at H
       obtain ⟨rfl, rfl⟩ := H
       have p4 : 0 ≤ (x5_1 : Int) := of_decide_eq_true (by first | (with_reducible assumption) | assumption)
       have q4 : x5_1 < (a0.size : Int) := of_decide_eq_true (by first | (with_reducible assumption) | assumption)
       have hx4 := bt_at a0 x5_1
       replace p4 := eq_true p4
       replace q4 := eq_true q4
       have p6 : 0 ≤ (x5_1 : Int) := of_decide_eq_true (by first | (with_reducible assumption) | assumption)
       have q6 : x5_1 < (a0.size : Int) := of_decide_eq_true (by first | (with_reducible assumption) | assumption)
       have hx6 := bt_at a0 x5_1
       replace p6 := eq_true p6
       replace q6 := eq_true q6
       go_wp2
       go_ret2
       exact ⟨by first | rfl | (simp [errW_none, errW_some] <;> rfl) | (simp [*, errW_none, errW_some] <;> rfl), by repeat (first | (with_reducible first | exact HB.out | apply below_alloc | apply pw_below_drewN | apply below_drew1) | exact HB.out)⟩
      ·rw [if_neg c7] at H
       have c7b0 : decide (57 < (bt a0 x5_1)) = false := decide_eq_false c7
       clear c7
       by_cases c8 : x4_1 > 1099511627776
       ·rw [if_pos c8] at H
        have c8b0 : decide (1099511627776 < x4_1) = true := decide_eq_true c8
        clear c8
        simp only [Option.some.injEq, Prod.mk.injEq] at H
        obtain ⟨rfl, rfl⟩ := H
        have p4 : 0 ≤ (x5_1 : Int) := of_decide_eq_true (by first | (with_reducible assumption) | assumption)
        have q4 : x5_1 < (a0.size : Int) := of_decide_eq_true (by first | (with_reducible assumption) | assumption)
        have hx4 := bt_at a0 x5_1
        replace p4 := eq_true p4
        replace q4 := eq_true q4
        have p6 : 0 ≤ (x5_1 : Int) := of_decide_eq_true (by first | (with_reducible assumption) | assumption)
        have q6 : x5_1 < (a0.size : Int) := of_decide_eq_true (by first | (with_reducible assumption) | assumption)
        have hx6 := bt_at a0 x5_1
        replace p6 := eq_true p6
        replace q6 := eq_true q6
        go_wp2
        go_ret2
        exact ⟨by first | rfl | (simp [errW_none, errW_some] <;> rfl) | (simp [*, errW_none, errW_some] <;> rfl), by repeat (first | (with_reducible first | exact HB.out | apply below_alloc | apply pw_below_drewN | apply below_drew1) | exact HB.out)⟩
       ·rw [if_neg c8] at H
        have c8b0 : decide (1099511627776 < x4_1) = false := decide_eq_false c8
        clear c8
        have H' := aA H
        clear H
        have p4 : 0 ≤ (x5_1 : Int) := of_decide_eq_true (by first | (with_reducible assumption) | assumption)
        have q4 : x5_1 < (a0.size : Int) := of_decide_eq_true (by first | (with_reducible assumption) | assumption)
        have hx4 := bt_at a0 x5_1
        replace p4 := eq_true p4
        replace q4 := eq_true q4
        have p6 : 0 ≤ (x5_1 : Int) := of_decide_eq_true (by first | (with_reducible assumption) | assumption)
        have q6 : x5_1 < (a0.size : Int) := of_decide_eq_true (by first | (with_reducible assumption) | assumption)
        have hx6 := bt_at a0 x5_1
        replace p6 := eq_true p6
        replace q6 := eq_true q6
        have p9 : 0 ≤ (x5_1 : Int) := of_decide_eq_true (by first | (with_reducible assumption) | assumption)
        have q9 : x5_1 < (a0.size : Int) := of_decide_eq_true (by first | (with_reducible assumption) | assumption)
        have hx9 := bt_at a0 x5_1
        replace p9 := eq_true p9
        replace q9 := eq_true q9
        go_wp2
        go_roundg k1
        case measure => have := HK1.out; omega
        case rel => exact ⟨(wrap64 ((wrap64 (10 * x4_1)) + (((bt a0 x5_1) - 48) % 256))), (wrap64 (x5_1 + 1)), (by first | rfl | (simp; done) | (simp [*]; done)), (by first | rfl | (simp; done) | (simp [*]; done)), H', ⟨by have := HK1.out; omega⟩, ⟨by repeat (first | (with_reducible first | exact HB.out | apply below_alloc | apply pw_below_drewN | apply below_drew1) | exact HB.out)⟩⟩
    ·rw [if_neg c3] at H
     exact absurd H (by simp)
   ·rw [if_neg c2] at H
    have c2b0 : decide (x5_1 < (a0.size : Int)) = false := decide_eq_false c2
    clear c2
    by_cases c10 : a0.toList = ([] : List UInt8)
    ·rw [if_pos c10] at H
     have c10b0 : (a0.toList == ([] : List UInt8)) = true := beq_iff_eq.mpr c10
     have c10b1 : (a0.toList != ([] : List UInt8)) = false := bne_eq_false_iff_eq.mpr c10
     clear c10
     simp only [Option.some.injEq, Prod.mk.injEq] at H
     obtain ⟨rfl, rfl⟩ := H
     go_wp2
     go_ret2
     exact ⟨by first | rfl | (simp [errW_none, errW_some] <;> rfl) | (simp [*, errW_none, errW_some] <;> rfl), by repeat (first | (with_reducible first | exact HB.out | apply below_alloc | apply pw_below_drewN | apply below_drew1) | exact HB.out)⟩
    ·rw [if_neg c10] at H
     have c10b0 : (a0.toList == ([] : List UInt8)) = false := beq_eq_false_iff_ne.mpr c10
     have c10b1 : (a0.toList != ([] : List UInt8)) = true := bne_iff_ne.mpr c10
     by_cases c11 : x4_1 ≤ 1099511627776
     ·rw [if_pos c11] at H
      have c11b0 : decide (x4_1 ≤ 1099511627776) = true := decide_eq_true c11
      clear c11
      replace H := Option.bind_eq_some_iff.mp H
      obtain ⟨t347, A120, H⟩ := H
      replace H : (some (x4_1, (t347.toList == a0.toList))) = some (r1, r2) := H
      have A12 := aA A120
      clear A120
      simp only [Option.some.injEq, Prod.mk.injEq] at H
      obtain ⟨rfl, rfl⟩ := H
      go_wp2_with (first | (go_at_call 53; (with_reducible refine (foghornref12_Digits.calls k1 x4_1 t347 _ A12.out).mono ?_); rintro e w13 ⟨rfl, hb⟩; have n0_ := aA (below_step mB hb); clear HB; have HB := n0_; clear n0_; (try clear hb); (try clear hb2); (try clear hk); (try clear hi)))
      go_ret2
      exact ⟨by first | rfl | (simp [errW_none, errW_some] <;> rfl) | (simp [*, errW_none, errW_some] <;> rfl), by repeat (first | (with_reducible first | exact HB.out | apply below_alloc | apply pw_below_drewN | apply below_drew1) | exact HB.out)⟩
     ·rw [if_neg c11] at H
      have c11b0 : decide (x4_1 ≤ 1099511627776) = false := decide_eq_false c11
      clear c11
      simp only [Option.some.injEq, Prod.mk.injEq] at H
      obtain ⟨rfl, rfl⟩ := H
      go_wp2
      go_ret2
      exact ⟨by first | rfl | (simp [errW_none, errW_some] <;> rfl) | (simp [*, errW_none, errW_some] <;> rfl), by repeat (first | (with_reducible first | exact HB.out | apply below_alloc | apply pw_below_drewN | apply below_drew1) | exact HB.out)⟩
end Go.Proofs.YtjfknmlchdifjaaGreatDoorQ.P
namespace Go.Proofs.YtjfknmlchdifjaaGreatDoorQ.P
open Go.RowKit Go.Proofs.YtjfknmlchdifjaaGreatDoorW.PrintWords Go.Proofs.YtjfknmlchdifjaaGreatDoorW.PrintLast Go.Proofs.YtjfknmlchdifjaaGreatDoorW.PrintMore
attribute [local go_sem] max2_int min2_int max_two min_two max_three min_three max_four min_four
def foghornref13_numbers.l0 : Nat → List Int → List ByteArray → Int → Int → Option (List Int × Bool)
 | 0, _, _, _, _ => none
 | k + 1, x4, x10, x11, x12 => if x12 < x11 then (if 0 ≤ x12 then (if x12 < (x10.length : Int) then ((foghornref12_Number.f k (rdOf ByteArray.empty x10 x12)).bind fun bt352 => (if bt352.2 = true then (if x4.length < 17592186044416 then (foghornref13_numbers.l0 k (x4 ++ [bt352.1]) x10 x11 (wrap64 (x12 + 1))) else (none)) else (some (([] : List Int), false)))) else (none)) else (none)) else (some (x4, true))
def foghornref13_numbers.f (k : Nat) (l0 : List ByteArray) : Option (List Int × Bool) := foghornref13_numbers.l0 k (([] : List Int)) l0 (l0.length : Int) 0
set_option maxHeartbeats 8000000 in
set_option maxRecDepth 100000 in
theorem foghornref13_numbers.calls (k : Nat) (A0 : Option Addr) (c0 : Nat) (l0 : List ByteArray) (r1 : List Int) (r2 : Bool) (w : World) (hr0 : Kd.C Kd.string w A0 l0.length l0) (hc0 : l0.length ≤ c0) (h : foghornref13_numbers.f k l0 = some (r1, r2)) :
  Calls Tryz.prog 138 #[.slice A0 l0.length c0] w fun e w' => ∃ v0_ : Value, e = .returned (.tuple #[v0_, .bool r2]) ∧ Kd.R (Kd.int .i64) 3 w' w.heap.size (fun _ => True) v0_ r1 ∧ Below w.heap.size w w' := by
 have HR0 := aA hr0
 have HC0 := aA hc0
 clear hr0 hc0
 have HB := aA (Below.refl w.heap.size w)
 have H : (foghornref13_numbers.l0 k (([] : List Int)) l0 (l0.length : Int) 0) = some (r1, r2) := h
 clear h
 obtain ⟨y348, hy348⟩ : ∃ y_ : List Int, y_ = (([] : List Int)) := ⟨_, rfl⟩
 replace H : (foghornref13_numbers.l0 k y348 l0 (l0.length : Int) 0) = some (r1, r2) := by first | (rw [hy348]; with_reducible exact H) | (have H2_ := (Option.bind_some _ _).symm.trans H; rw [hy348]; with_reducible exact H2_) | (have H2_ := (Option.bind_some _ _).symm.trans H; with_reducible exact H2_) | with_reducible exact H | (rw [hy348]; exact H) | exact H
 have Ny348 := aA hy348
 clear hy348
 have H' := aA H
 clear H
 go_enter Tryz.func138, Tryz.ntmps138
 go_wp2_with (first | ((with_reducible refine gate_dst (N := 9) rfl ?_); refine Kd.R_lit (Kd.int .i64) _ 3 ?hg (N := 9) ?hd (xs := ([] : List Int)) (inner := []) (ok := fun _ => True) (okp := fun _ => True) ?hr ?hp (fun _ hk => hk) trivial (Below.refl _ _) (Nat.le_refl _) (by simp) ?_; (case hd => rfl); (case hg => rfl); (case hr => first | (go_simp; done) | (go_simp; rfl)); (case hp => exact (Reps.none _ _)); intro v349 w2 ho3 hb hg_ hnew_; clear hg_ hnew_; (first | rw [← Ny348.out] at ho3 | (simp only [Int.reduceToNat] at ho3; rw [← Ny348.out] at ho3)); have n0_ := aA (Kd.R_lower ho3 (below_size mB)); have n1_ := aA (below_step mB hb); clear HB; have HO350 := n0_; have HB := n1_; clear n0_ n1_ hb ho3))
 go_loopg [4, 12] k (fun kq v4 v12 w' => ∃ (x4_1 : List Int) (x12_1 : Int), v12 = .int .i64 x12_1 ∧ Aside0 (foghornref13_numbers.l0 kq x4_1 l0 (l0.length : Int) x12_1 = some (r1, r2)) ∧ Aside0 (kq ≤ k) ∧ Aside0 (Kd.R (Kd.int .i64) 3 w' w.heap.size (fun _ => True) v4 x4_1) ∧ Aside0 (Below w.heap.size w w'))
 case atStart => exact ⟨(y348), (0), (by first | rfl | (simp; done) | (simp [*]; done)), H', ⟨Nat.le_refl _⟩, ⟨by (with_reducible repeat (first | apply Kd.R_alloc | apply Kd.R_drewN | apply Kd.R_drew)); exact HO350.out⟩, ⟨by repeat (first | (with_reducible first | exact HB.out | apply below_alloc | apply pw_below_drewN | apply below_drew1) | exact HB.out)⟩⟩
 case round =>
  clear H'
  try clear c1
  try clear p2
  obtain ⟨x4_1, x12_1, rfl, HA, HK1, HO_4, HB⟩ := hrel
  cases gk with
  | zero => exact absurd HA.out (by simp [foghornref13_numbers.l0])
  | succ k1 =>
   have H := HA.out
   clear HA
   simp only [foghornref13_numbers.l0] at H
   by_cases c4 : x12_1 < (l0.length : Int)
   ·rw [if_pos c4] at H
    have c4b0 : decide (x12_1 < (l0.length : Int)) = true := decide_eq_true c4
    clear c4
    by_cases c5 : 0 ≤ x12_1
    ·rw [if_pos c5] at H
     have c5b0 : decide (0 ≤ x12_1) = true := decide_eq_true c5
     clear c5
     by_cases c6 : x12_1 < (l0.length : Int)
     ·rw [if_pos c6] at H
      have c6b0 : decide (x12_1 < (l0.length : Int)) = true := decide_eq_true c6
      clear c6
      replace H := Option.bind_eq_some_iff.mp H
      obtain ⟨⟨t352, t353⟩, A70, H⟩ := H
      replace H : (if t353 = true then (if x4_1.length < 17592186044416 then (foghornref13_numbers.l0 k1 (x4_1 ++ [t352]) l0 (l0.length : Int) (wrap64 (x12_1 + 1))) else (none)) else (some (([] : List Int), false))) = some (r1, r2) := H
      have A7 := aA A70
      clear A70
      by_cases c8 : t353 = true
      ·subst c8
       have H1 : (if x4_1.length < 17592186044416 then (foghornref13_numbers.l0 k1 (x4_1 ++ [t352]) l0 (l0.length : Int) (wrap64 (x12_1 + 1))) else (none)) = some (r1, r2) := by rw [if_pos rfl] at H; exact H
       clear H
       have H := H1
       clear H1
       by_cases c9 : x4_1.length < 17592186044416
       ·rw [if_pos c9] at H
        have LMc9 := aA c9
        clear c9
        obtain ⟨y354, hy354⟩ : ∃ y_ : List Int, y_ = (x4_1 ++ [t352]) := ⟨_, rfl⟩
        replace H : (foghornref13_numbers.l0 k1 y354 l0 (l0.length : Int) (wrap64 (x12_1 + 1))) = some (r1, r2) := by first | (rw [hy354]; with_reducible exact H) | (have H2_ := (Option.bind_some _ _).symm.trans H; rw [hy354]; with_reducible exact H2_) | (have H2_ := (Option.bind_some _ _).symm.trans H; with_reducible exact H2_) | with_reducible exact H | (rw [hy354]; exact H) | exact H
        have Ny354 := aA hy354
        clear hy354
        have H' := aA H
        clear H
        have p351 : 0 ≤ (x12_1 : Int) := of_decide_eq_true (by first | (with_reducible assumption) | assumption)
        have q351 : x12_1 < (l0.length : Int) := of_decide_eq_true (by first | (with_reducible assumption) | assumption)
        obtain ⟨ad351, e351, hx351_0⟩ := Kd.at_string HR0.out x12_1 p351 q351
        cases e351
        replace hx351_0 := (HB.out.cell (World.block_lt_of_cell? w _ hx351_0)).trans hx351_0
        replace p351 := eq_true p351
        replace q351 := eq_true q351
        go_wp2_with (first | ((with_reducible refine gate_callee (f := 79) rfl ?_); refine goesL_ (some 18) rfl rfl Tryz.func79 (by kernel_rfl) rfl #[.string (rdOf ByteArray.empty l0 x12_1)] rfl mS ?_; (with_reducible refine (foghornref12_Number.calls k1 (rdOf ByteArray.empty l0 x12_1) t352 true _ A7.out).mono ?_); rintro e w10 ⟨rfl, hb⟩; refine ⟨_, rfl, ?_⟩; have n0_ := aA (Kd.R_below (mR HO_4.out) hb); have n1_ := aA (below_step mB hb); clear HO_4 HB; have HO_4 := n0_; have HB := n1_; clear n0_ n1_; (try clear hb); (try clear hb2); (try clear hk); (try clear hi)) | ((with_reducible refine gate_builtin (b := .append) (xs := #[.tmp 23, .tmp 25]) rfl ?_); at_builtin; refine Kd.R_append (Kd.int .i64) (w0 := w) w.heap.size rfl (.tmp 23) (.tmp 25) 91 3 (.int .i64 0) 8 rfl Tryz.underlying91 info3 rfl (by decide) (by omega) u4 x4_1 t352 [.int .i64 t352] (fun _ => True) (fun _ => False) rfl rfl ?aP (fun _ hk => hk.elim) ?aF ?aO ?aB ?aS ?aL ?_; (case aP => exact rfl); (case aB => exact mB); (case aF => exact (fun _ _ => trivial)); (case aO => exact (mR HO_4.out)); (case aS => exact (below_size mB)); (case aL => have := LMc9.out; omega); intro v355 w11 ho hb hg hat; rw [← Ny354.out] at ho; have n0_ := aA (hb); have n1_ := aA (ho); clear HB HO_4; have HB := n0_; have HO356 := n1_; clear n0_ n1_ ho hb hg hat))
        go_roundg k1
        case measure => have := HK1.out; omega
        case rel => exact ⟨(y354), (wrap64 (x12_1 + 1)), (by first | rfl | (simp; done) | (simp [*]; done)), H', ⟨by have := HK1.out; omega⟩, ⟨by (with_reducible repeat (first | apply Kd.R_alloc | apply Kd.R_drewN | apply Kd.R_drew)); exact HO356.out⟩, ⟨by repeat (first | (with_reducible first | exact HB.out | apply below_alloc | apply pw_below_drewN | apply below_drew1) | exact HB.out)⟩⟩
       ·rw [if_neg c9] at H
        exact absurd H (by simp)
      ·replace c8 := Bool.eq_false_iff.mpr c8
       subst c8
       have H1 : (some (([] : List Int), false)) = some (r1, r2) := by rw [if_neg (show ¬ (false = true) by decide)] at H; exact H
       clear H
       have H := H1
       clear H1
       simp only [Option.some.injEq, Prod.mk.injEq] at H
       obtain ⟨rfl, rfl⟩ := H
       have p351 : 0 ≤ (x12_1 : Int) := of_decide_eq_true (by first | (with_reducible assumption) | assumption)
       have q351 : x12_1 < (l0.length : Int) := of_decide_eq_true (by first | (with_reducible assumption) | assumption)
       obtain ⟨ad351, e351, hx351_0⟩ := Kd.at_string HR0.out x12_1 p351 q351
       cases e351
       replace hx351_0 := (HB.out.cell (World.block_lt_of_cell? w _ hx351_0)).trans hx351_0
       replace p351 := eq_true p351
       replace q351 := eq_true q351
       go_wp2_with (first | ((with_reducible refine gate_callee (f := 79) rfl ?_); refine goesL_ (some 18) rfl rfl Tryz.func79 (by kernel_rfl) rfl #[.string (rdOf ByteArray.empty l0 x12_1)] rfl mS ?_; (with_reducible refine (foghornref12_Number.calls k1 (rdOf ByteArray.empty l0 x12_1) t352 false _ A7.out).mono ?_); rintro e w12 ⟨rfl, hb⟩; refine ⟨_, rfl, ?_⟩; have n0_ := aA (Kd.R_below (mR HO_4.out) hb); have n1_ := aA (below_step mB hb); clear HO_4 HB; have HO_4 := n0_; have HB := n1_; clear n0_ n1_; (try clear hb); (try clear hb2); (try clear hk); (try clear hi)))
       go_ret2
       exact ⟨_, by first | rfl | (simp [errW_none, errW_some] <;> rfl) | (simp [*, errW_none, errW_some] <;> rfl), by first | exact Kd.R_nil _ _ _ _ _ | exact Kd.N_nil _ _ _ _ _ | exact Kd.V_nil _ _ _ _ _ | exact Kd.Q_nil _ _ _ _ _ | exact Kd.S_nil _ _ _ _ _, by repeat (first | (with_reducible first | exact HB.out | apply below_alloc | apply pw_below_drewN | apply below_drew1) | exact HB.out)⟩
     ·rw [if_neg c6] at H
      exact absurd H (by simp)
    ·rw [if_neg c5] at H
     exact absurd H (by simp)
   ·rw [if_neg c4] at H
    have c4b0 : decide (x12_1 < (l0.length : Int)) = false := decide_eq_false c4
    clear c4
    simp only [Option.some.injEq, Prod.mk.injEq] at H
    obtain ⟨rfl, rfl⟩ := H
    go_wp2
    go_ret2
    exact ⟨_, by first | rfl | (simp [errW_none, errW_some] <;> rfl) | (simp [*, errW_none, errW_some] <;> rfl), by (with_reducible repeat (first | apply Kd.R_alloc | apply Kd.R_drewN | apply Kd.R_drew)); exact HO_4.out, by repeat (first | (with_reducible first | exact HB.out | apply below_alloc | apply pw_below_drewN | apply below_drew1) | exact HB.out)⟩
end Go.Proofs.YtjfknmlchdifjaaGreatDoorQ.P
namespace Go.Proofs.YtjfknmlchdifjaaGreatDoorQ.P
open Go.RowKit Go.Proofs.YtjfknmlchdifjaaGreatDoorW.PrintWords Go.Proofs.YtjfknmlchdifjaaGreatDoorW.PrintLast Go.Proofs.YtjfknmlchdifjaaGreatDoorW.PrintMore
attribute [local go_sem] max2_int min2_int max_two min_two max_three min_three max_four min_four
def foghornref13_often.f (a0 : Int) : Option (Bool) := if a0 ≥ 1 then (some (decide (a0 ≤ 1073741824))) else (some false)
set_option maxHeartbeats 8000000 in
set_option maxRecDepth 100000 in
theorem foghornref13_often.calls (a0 : Int) (r : Bool) (w : World) (h : foghornref13_often.f a0 = some r) :
  Calls Tryz.prog 71 #[.int .i64 a0] w fun e w' => e = .returned (.bool r) ∧ Drawn0 w w' := by
 have H : (if a0 ≥ 1 then (some (decide (a0 ≤ 1073741824))) else (some false)) = some r := h
 clear h
 by_cases c2 : a0 ≥ 1
 ·rw [if_pos c2] at H
  have c2b0 : decide (1 ≤ a0) = true := decide_eq_true c2
  clear c2
  obtain rfl := Option.some.inj H
  go_enter Tryz.func71, Tryz.ntmps71
  go_wp2
  go_ret
  exact ⟨by first | rfl | (simp; done) | (simp [*]; done), by repeat (first | exact Drawn0.refl _ | apply Drawn0.step)⟩
 ·rw [if_neg c2] at H
  have c2b0 : decide (1 ≤ a0) = false := decide_eq_false c2
  clear c2
  obtain rfl := Option.some.inj H
  go_enter Tryz.func71, Tryz.ntmps71
  go_wp2
  go_ret
  exact ⟨by first | rfl | (simp; done) | (simp [*]; done), by repeat (first | exact Drawn0.refl _ | apply Drawn0.step)⟩
end Go.Proofs.YtjfknmlchdifjaaGreatDoorQ.P
namespace Go.Proofs.YtjfknmlchdifjaaGreatDoorQ.P
open Go.RowKit Go.Proofs.YtjfknmlchdifjaaGreatDoorW.PrintWords Go.Proofs.YtjfknmlchdifjaaGreatDoorW.PrintLast Go.Proofs.YtjfknmlchdifjaaGreatDoorW.PrintMore
attribute [local go_sem] max2_int min2_int max_two min_two max_three min_three max_four min_four
def foghornref13_one.f (k : Nat) (l0 : List ByteArray) : Option (Int × Int) := if (l0.length : Int) = 2 then (if 1 < (l0.length : Int) then ((foghornref12_Number.f k (rdOf ByteArray.empty l0 1)).bind fun bt358 => (if bt358.2 = true then ((foghornref13_often.f bt358.1).bind fun t360 => (if t360 = true then (some (bt358.1, 0)) else (some (0, 3)))) else (some (0, 13)))) else (none)) else (some (0, 12))
set_option maxHeartbeats 8000000 in
set_option maxRecDepth 100000 in
theorem foghornref13_one.calls (k : Nat) (A0 : Option Addr) (c0 : Nat) (l0 : List ByteArray) (r1 : Int) (r2 : Int) (w : World) (hr0 : Kd.C Kd.string w A0 l0.length l0) (hc0 : l0.length ≤ c0) (h : foghornref13_one.f k l0 = some (r1, r2)) :
  Calls Tryz.prog 104 #[.slice A0 l0.length c0] w fun e w' => e = .returned (.tuple #[.int .i64 r1, .int .i64 r2]) ∧ Below w.heap.size w w' := by
 have HR0 := aA hr0
 have HC0 := aA hc0
 clear hr0 hc0
 have HB := aA (Below.refl w.heap.size w)
 have H : (if (l0.length : Int) = 2 then (if 1 < (l0.length : Int) then ((foghornref12_Number.f k (rdOf ByteArray.empty l0 1)).bind fun bt358 => (if bt358.2 = true then ((foghornref13_often.f bt358.1).bind fun t360 => (if t360 = true then (some (bt358.1, 0)) else (some (0, 3)))) else (some (0, 13)))) else (none)) else (some (0, 12))) = some (r1, r2) := h
 clear h
 by_cases c2 : (l0.length : Int) = 2
 ·rw [if_pos c2] at H
  have c2b0 : ((l0.length : Int) == 2) = true := beq_iff_eq.mpr c2
  have c2b1 : ((l0.length : Int) != 2) = false := bne_eq_false_iff_eq.mpr c2
  clear c2
  by_cases c3 : 1 < (l0.length : Int)
  ·rw [if_pos c3] at H
   have c3b0 : decide (1 < (l0.length : Int)) = true := decide_eq_true c3
   have c3b1 : decide (1 < l0.length) = true := decide_eq_true (by omega)
   clear c3
   replace H := Option.bind_eq_some_iff.mp H
   obtain ⟨⟨t358, t359⟩, A40, H⟩ := H
   replace H : (if t359 = true then ((foghornref13_often.f t358).bind fun t360 => (if t360 = true then (some (t358, 0)) else (some (0, 3)))) else (some (0, 13))) = some (r1, r2) := H
   have A4 := aA A40
   clear A40
   by_cases c5 : t359 = true
   ·subst c5
    have H1 : ((foghornref13_often.f t358).bind fun t360 => (if t360 = true then (some (t358, 0)) else (some (0, 3)))) = some (r1, r2) := by rw [if_pos rfl] at H; exact H
    clear H
    have H := H1
    clear H1
    replace H := Option.bind_eq_some_iff.mp H
    obtain ⟨t360, A60, H⟩ := H
    replace H : (if t360 = true then (some (t358, 0)) else (some (0, 3))) = some (r1, r2) := H
    have A6 := aA A60
    clear A60
    by_cases c7 : t360 = true
    ·subst c7
     have H1 : (some (t358, 0)) = some (r1, r2) := by rw [if_pos rfl] at H; exact H
     clear H
     have H := H1
     clear H1
     simp only [Option.some.injEq, Prod.mk.injEq] at H
     obtain ⟨rfl, rfl⟩ := H
     have p357 : 0 ≤ (1 : Int) := (by omega)
     have q357 : 1 < (l0.length : Int) := of_decide_eq_true (by first | (with_reducible assumption) | assumption)
     obtain ⟨ad357, e357, hx357_0⟩ := Kd.at_string HR0.out 1 p357 q357
     cases e357
     (try simp only [show (1 : Int).toNat = 1 from rfl, Nat.reduceMul, Nat.reduceEqDiff, Go.Addr.add, ↓reduceIte] at hx357_0)
     have qi357 : (1 < l0.length) = True := eq_true (by omega)
     (try rw [show ((1 : Int)).toNat = 1 from rfl] at hx357_0)
     replace p357 := eq_true p357
     replace q357 := eq_true q357
     go_enter Tryz.func104, Tryz.ntmps104
     go_wp2_with (first | ((with_reducible refine gate_callee (f := 79) rfl ?_); refine goesL_ (some 13) rfl rfl Tryz.func79 (by kernel_rfl) rfl #[.string (rdOf ByteArray.empty l0 1)] rfl mS ?_; (with_reducible refine (foghornref12_Number.calls k (rdOf ByteArray.empty l0 1) t358 true _ A4.out).mono ?_); rintro e w8 ⟨rfl, hb⟩; refine ⟨_, rfl, ?_⟩; have n0_ := aA (below_step mB hb); clear HB; have HB := n0_; clear n0_; (try clear hb); (try clear hb2); (try clear hk); (try clear hi)) | ((with_reducible refine gate_callee (f := 71) rfl ?_); refine goesL_ (some 19) rfl rfl Tryz.func71 (by kernel_rfl) rfl #[.int .i64 t358] rfl mS ?_; (with_reducible refine (foghornref13_often.calls t358 true _ A6.out).mono ?_); rintro e w' ⟨rfl, ⟨nd, rfl⟩⟩; refine ⟨_, rfl, ?_⟩))
     go_ret2
     exact ⟨by first | rfl | (simp [errW_none, errW_some] <;> rfl) | (simp [*, errW_none, errW_some] <;> rfl), by repeat (first | (with_reducible first | exact HB.out | apply below_alloc | apply pw_below_drewN | apply below_drew1) | exact HB.out)⟩
    ·replace c7 := Bool.eq_false_iff.mpr c7
     subst c7
     have H1 : (some (0, 3)) = some (r1, r2) := by rw [if_neg (show ¬ (false = true) by decide)] at H; exact H
     clear H
     have H := H1
     clear H1
     simp only [Option.some.injEq, Prod.mk.injEq] at H
     obtain ⟨rfl, rfl⟩ := H
     have p357 : 0 ≤ (1 : Int) := (by omega)
     have q357 : 1 < (l0.length : Int) := of_decide_eq_true (by first | (with_reducible assumption) | assumption)
     obtain ⟨ad357, e357, hx357_0⟩ := Kd.at_string HR0.out 1 p357 q357
     cases e357
     (try simp only [show (1 : Int).toNat = 1 from rfl, Nat.reduceMul, Nat.reduceEqDiff, Go.Addr.add, ↓reduceIte] at hx357_0)
     have qi357 : (1 < l0.length) = True := eq_true (by omega)
     (try rw [show ((1 : Int)).toNat = 1 from rfl] at hx357_0)
     replace p357 := eq_true p357
     replace q357 := eq_true q357
     go_enter Tryz.func104, Tryz.ntmps104
     go_wp2_with (first | ((with_reducible refine gate_callee (f := 79) rfl ?_); refine goesL_ (some 13) rfl rfl Tryz.func79 (by kernel_rfl) rfl #[.string (rdOf ByteArray.empty l0 1)] rfl mS ?_; (with_reducible refine (foghornref12_Number.calls k (rdOf ByteArray.empty l0 1) t358 true _ A4.out).mono ?_); rintro e w9 ⟨rfl, hb⟩; refine ⟨_, rfl, ?_⟩; have n0_ := aA (below_step mB hb); clear HB; have HB := n0_; clear n0_; (try clear hb); (try clear hb2); (try clear hk); (try clear hi)) | ((with_reducible refine gate_callee (f := 71) rfl ?_); refine goesL_ (some 19) rfl rfl Tryz.func71 (by kernel_rfl) rfl #[.int .i64 t358] rfl mS ?_; (with_reducible refine (foghornref13_often.calls t358 false _ A6.out).mono ?_); rintro e w' ⟨rfl, ⟨nd, rfl⟩⟩; refine ⟨_, rfl, ?_⟩))
     go_ret2
     exact ⟨by first | rfl | (simp [errW_none, errW_some] <;> rfl) | (simp [*, errW_none, errW_some] <;> rfl), by repeat (first | (with_reducible first | exact HB.out | apply below_alloc | apply pw_below_drewN | apply below_drew1) | exact HB.out)⟩
   ·replace c5 := Bool.eq_false_iff.mpr c5
    subst c5
    have H1 : (some (0, 13)) = some (r1, r2) := by rw [if_neg (show ¬ (false = true) by decide)] at H; exact H
    clear H
    have H := H1
    clear H1
    simp only [Option.some.injEq, Prod.mk.injEq] at H
    obtain ⟨rfl, rfl⟩ := H
    have p357 : 0 ≤ (1 : Int) := (by omega)
    have q357 : 1 < (l0.length : Int) := of_decide_eq_true (by first | (with_reducible assumption) | assumption)
    obtain ⟨ad357, e357, hx357_0⟩ := Kd.at_string HR0.out 1 p357 q357
    cases e357
    (try simp only [show (1 : Int).toNat = 1 from rfl, Nat.reduceMul, Nat.reduceEqDiff, Go.Addr.add, ↓reduceIte] at hx357_0)
    have qi357 : (1 < l0.length) = True := eq_true (by omega)
    (try rw [show ((1 : Int)).toNat = 1 from rfl] at hx357_0)
    replace p357 := eq_true p357
    replace q357 := eq_true q357
    go_enter Tryz.func104, Tryz.ntmps104
    go_wp2_with (first | ((with_reducible refine gate_callee (f := 79) rfl ?_); refine goesL_ (some 13) rfl rfl Tryz.func79 (by kernel_rfl) rfl #[.string (rdOf ByteArray.empty l0 1)] rfl mS ?_; (with_reducible refine (foghornref12_Number.calls k (rdOf ByteArray.empty l0 1) t358 false _ A4.out).mono ?_); rintro e w10 ⟨rfl, hb⟩; refine ⟨_, rfl, ?_⟩; have n0_ := aA (below_step mB hb); clear HB; have HB := n0_; clear n0_; (try clear hb); (try clear hb2); (try clear hk); (try clear hi)))
    go_ret2
    exact ⟨by first | rfl | (simp [errW_none, errW_some] <;> rfl) | (simp [*, errW_none, errW_some] <;> rfl), by repeat (first | (with_reducible first | exact HB.out | apply below_alloc | apply pw_below_drewN | apply below_drew1) | exact HB.out)⟩
  ·rw [if_neg c3] at H
   exact absurd H (by simp)
 ·rw [if_neg c2] at H
  have c2b0 : ((l0.length : Int) == 2) = false := beq_eq_false_iff_ne.mpr c2
  have c2b1 : ((l0.length : Int) != 2) = true := bne_iff_ne.mpr c2
  simp only [Option.some.injEq, Prod.mk.injEq] at H
  obtain ⟨rfl, rfl⟩ := H
  go_enter Tryz.func104, Tryz.ntmps104
  go_wp2
  go_ret2
  exact ⟨by first | rfl | (simp [errW_none, errW_some] <;> rfl) | (simp [*, errW_none, errW_some] <;> rfl), by repeat (first | (with_reducible first | exact HB.out | apply below_alloc | apply pw_below_drewN | apply below_drew1) | exact HB.out)⟩
end Go.Proofs.YtjfknmlchdifjaaGreatDoorQ.P
namespace Go.Proofs.YtjfknmlchdifjaaGreatDoorQ.P
open Go.RowKit Go.Proofs.YtjfknmlchdifjaaGreatDoorW.PrintWords Go.Proofs.YtjfknmlchdifjaaGreatDoorW.PrintLast Go.Proofs.YtjfknmlchdifjaaGreatDoorW.PrintMore
attribute [local go_sem] max2_int min2_int max_two min_two max_three min_three max_four min_four
def foghornref12_Words.l0 : Nat → ByteArray → List ByteArray → Int → Int → Option (List ByteArray)
 | 0, _, _, _, _ => none
 | k + 1, x0, x3, x4, x5 => if x5 < (x0.size : Int) then (if 0 ≤ x5 then (if (bt x0 x5) = 32 then (if 0 ≤ x4 then (if x4 ≤ x5 then (if x5 ≤ (x0.size : Int) then (if x3.length < 8796093022208 then (foghornref12_Words.l0 k x0 (x3 ++ [x0.extract (x4 : Int).toNat (x5 : Int).toNat]) (wrap64 (x5 + 1)) (wrap64 (x5 + 1))) else (none)) else (none)) else (none)) else (none)) else (foghornref12_Words.l0 k x0 x3 x4 (wrap64 (x5 + 1)))) else (none)) else (if 0 ≤ x4 then (if x4 ≤ (x0.size : Int) then (if x3.length < 8796093022208 then (some (x3 ++ [x0.extract (x4 : Int).toNat x0.size])) else (none)) else (none)) else (none))
def foghornref12_Words.f (k : Nat) (a0 : ByteArray) : Option (List ByteArray) := foghornref12_Words.l0 k a0 (([] : List ByteArray)) 0 0
set_option maxHeartbeats 8000000 in
set_option maxRecDepth 100000 in
theorem foghornref12_Words.calls (k : Nat) (a0 : ByteArray) (r : List ByteArray) (w : World) (h : foghornref12_Words.f k a0 = some r) :
  Calls Tryz.prog 37 #[.string a0] w fun e w' => ∃ v0_ : Value, e = .returned (v0_) ∧ Kd.R Kd.string 9 w' w.heap.size (fun _ => True) v0_ r ∧ Below w.heap.size w w' := by
 have HB := aA (Below.refl w.heap.size w)
 have H : (foghornref12_Words.l0 k a0 (([] : List ByteArray)) 0 0) = some r := h
 clear h
 obtain ⟨y451, hy451⟩ : ∃ y_ : List ByteArray, y_ = (([] : List ByteArray)) := ⟨_, rfl⟩
 replace H : (foghornref12_Words.l0 k a0 y451 0 0) = some r := by first | (rw [hy451]; with_reducible exact H) | (have H2_ := (Option.bind_some _ _).symm.trans H; rw [hy451]; with_reducible exact H2_) | (have H2_ := (Option.bind_some _ _).symm.trans H; with_reducible exact H2_) | with_reducible exact H | (rw [hy451]; exact H) | exact H
 have Ny451 := aA hy451
 clear hy451
 have H' := aA H
 clear H
 go_enter Tryz.func37, Tryz.ntmps37
 go_wp2_with (first | ((with_reducible refine gate_dst (N := 6) rfl ?_); refine Kd.R_lit Kd.string _ 9 ?hg (N := 6) ?hd (xs := ([] : List ByteArray)) (inner := []) (ok := fun _ => True) (okp := fun _ => True) ?hr ?hp (fun _ hk => hk) trivial (Below.refl _ _) (Nat.le_refl _) (by simp) ?_; (case hd => rfl); (case hg => rfl); (case hr => first | (go_simp; done) | (go_simp; rfl)); (case hp => exact (Reps.none _ _)); intro v452 w2 ho3 hb hg_ hnew_; clear hg_ hnew_; (first | rw [← Ny451.out] at ho3 | (simp only [Int.reduceToNat] at ho3; rw [← Ny451.out] at ho3)); have n0_ := aA (Kd.R_lower ho3 (below_size mB)); have n1_ := aA (below_step mB hb); clear HB; have HO453 := n0_; have HB := n1_; clear n0_ n1_ hb ho3))
 go_loopg [3, 4, 5] k (fun kq v3 v4 v5 w' => ∃ (x3_1 : List ByteArray) (x4_1 : Int) (x5_1 : Int), v4 = .int .i64 x4_1 ∧ v5 = .int .i64 x5_1 ∧ Aside0 (foghornref12_Words.l0 kq a0 x3_1 x4_1 x5_1 = some r) ∧ Aside0 (kq ≤ k) ∧ Aside0 (Kd.R Kd.string 9 w' w.heap.size (fun _ => True) v3 x3_1) ∧ Aside0 (Below w.heap.size w w'))
 case atStart => exact ⟨(y451), (0), (0), (by first | rfl | (simp; done) | (simp [*]; done)), (by first | rfl | (simp; done) | (simp [*]; done)), H', ⟨Nat.le_refl _⟩, ⟨by (with_reducible repeat (first | apply Kd.R_alloc | apply Kd.R_drewN | apply Kd.R_drew)); exact HO453.out⟩, ⟨by repeat (first | (with_reducible first | exact HB.out | apply below_alloc | apply pw_below_drewN | apply below_drew1) | exact HB.out)⟩⟩
 case round =>
  clear H'
  try clear p2
  try clear c3
  obtain ⟨x3_1, x4_1, x5_1, rfl, rfl, HA, HK1, HO_3, HB⟩ := hrel
  cases gk with
  | zero => exact absurd HA.out (by simp [foghornref12_Words.l0])
  | succ k1 =>
   have H := HA.out
   clear HA
   simp only [foghornref12_Words.l0] at H
   by_cases c4 : x5_1 < (a0.size : Int)
   ·rw [if_pos c4] at H
    have c4b0 : decide (x5_1 < (a0.size : Int)) = true := decide_eq_true c4
    clear c4
    by_cases c5 : 0 ≤ x5_1
    ·rw [if_pos c5] at H
     have c5b0 : decide (0 ≤ x5_1) = true := decide_eq_true c5
     clear c5
     by_cases c7 : (bt a0 x5_1) = 32
     ·rw [if_pos c7] at H
      have c7b0 : ((bt a0 x5_1) == 32) = true := beq_iff_eq.mpr c7
      have c7b1 : ((bt a0 x5_1) != 32) = false := bne_eq_false_iff_eq.mpr c7
      clear c7
      by_cases c8 : 0 ≤ x4_1
      ·rw [if_pos c8] at H
       have c8b0 := eq_true c8
       have c8b1 := decide_eq_true c8
       clear c8
       by_cases c9 : x4_1 ≤ x5_1
       ·rw [if_pos c9] at H
        have c9b0 := eq_true c9
        have c9b1 := decide_eq_true c9
        clear c9
        by_cases c10 : x5_1 ≤ (a0.size : Int)
        ·rw [if_pos c10] at H
         have c10b0 := eq_true c10
         have c10b1 := decide_eq_true c10
         clear c10
         by_cases c11 : x3_1.length < 8796093022208
         ·rw [if_pos c11] at H
          have LMc11 := aA c11
          clear c11
          obtain ⟨y454, hy454⟩ : ∃ y_ : List ByteArray, y_ = (x3_1 ++ [a0.extract (x4_1 : Int).toNat (x5_1 : Int).toNat]) := ⟨_, rfl⟩
          replace H : (foghornref12_Words.l0 k1 a0 y454 (wrap64 (x5_1 + 1)) (wrap64 (x5_1 + 1))) = some r := by first | (rw [hy454]; with_reducible exact H) | (have H2_ := (Option.bind_some _ _).symm.trans H; rw [hy454]; with_reducible exact H2_) | (have H2_ := (Option.bind_some _ _).symm.trans H; with_reducible exact H2_) | with_reducible exact H | (rw [hy454]; exact H) | exact H
          have Ny454 := aA hy454
          clear hy454
          have H' := aA H
          clear H
          have p6 : 0 ≤ (x5_1 : Int) := of_decide_eq_true (by first | (with_reducible assumption) | assumption)
          have q6 : x5_1 < (a0.size : Int) := of_decide_eq_true (by first | (with_reducible assumption) | assumption)
          have hx6 := bt_at a0 x5_1
          replace p6 := eq_true p6
          replace q6 := eq_true q6
          go_wp2_with (first | ((with_reducible refine gate_builtin (b := .append) (xs := #[.tmp 17, .tmp 22]) rfl ?_); at_builtin; refine Kd.R_append Kd.string (w0 := w) w.heap.size rfl (.tmp 17) (.tmp 22) 67 9 (.string ⟨#[]⟩) 16 rfl Tryz.underlying67 info9 rfl (by decide) (by omega) u3 x3_1 (a0.extract (x4_1 : Int).toNat (x5_1 : Int).toNat) [.string (a0.extract (x4_1 : Int).toNat (x5_1 : Int).toNat)] (fun _ => True) (fun _ => False) rfl rfl ?aP (fun _ hk => hk.elim) ?aF ?aO ?aB ?aS ?aL ?_; (case aP => exact rfl); (case aB => exact mB); (case aF => exact (fun _ _ => trivial)); (case aO => exact (mR HO_3.out)); (case aS => exact (below_size mB)); (case aL => have := LMc11.out; omega); intro v455 w12 ho hb hg hat; rw [← Ny454.out] at ho; have n0_ := aA (hb); have n1_ := aA (ho); clear HB HO_3; have HB := n0_; have HO456 := n1_; clear n0_ n1_ ho hb hg hat))
          go_roundg k1
          case measure => have := HK1.out; omega
          case rel => exact ⟨(y454), (wrap64 (x5_1 + 1)), (wrap64 (x5_1 + 1)), (by first | rfl | (simp; done) | (simp [*]; done)), (by first | rfl | (simp; done) | (simp [*]; done)), H', ⟨by have := HK1.out; omega⟩, ⟨by (with_reducible repeat (first | apply Kd.R_alloc | apply Kd.R_drewN | apply Kd.R_drew)); exact HO456.out⟩, ⟨by repeat (first | (with_reducible first | exact HB.out | apply below_alloc | apply pw_below_drewN | apply below_drew1) | exact HB.out)⟩⟩
         ·rw [if_neg c11] at H
          exact absurd H (by simp)
        ·rw [if_neg c10] at H
         exact absurd H (by simp)
       ·rw [if_neg c9] at H
        exact absurd H (by simp)
      ·rw [if_neg c8] at H
       exact absurd H (by simp)
     ·rw [if_neg c7] at H
      have c7b0 : ((bt a0 x5_1) == 32) = false := beq_eq_false_iff_ne.mpr c7
      have c7b1 : ((bt a0 x5_1) != 32) = true := bne_iff_ne.mpr c7
      have H' := aA H
      clear H
      have p6 : 0 ≤ (x5_1 : Int) := of_decide_eq_true (by first | (with_reducible assumption) | assumption)
      have q6 : x5_1 < (a0.size : Int) := of_decide_eq_true (by first | (with_reducible assumption) | assumption)
      have hx6 := bt_at a0 x5_1
      replace p6 := eq_true p6
      replace q6 := eq_true q6
      go_wp2
      go_roundg k1
      case measure => have := HK1.out; omega
      case rel => exact ⟨(x3_1), (x4_1), (wrap64 (x5_1 + 1)), (by first | rfl | (simp; done) | (simp [*]; done)), (by first | rfl | (simp; done) | (simp [*]; done)), H', ⟨by have := HK1.out; omega⟩, ⟨by (with_reducible repeat (first | apply Kd.R_alloc | apply Kd.R_drewN | apply Kd.R_drew)); exact HO_3.out⟩, ⟨by repeat (first | (with_reducible first | exact HB.out | apply below_alloc | apply pw_below_drewN | apply below_drew1) | exact HB.out)⟩⟩
    ·rw [if_neg c5] at H
     exact absurd H (by simp)
   ·rw [if_neg c4] at H
    have c4b0 : decide (x5_1 < (a0.size : Int)) = false := decide_eq_false c4
    clear c4
    by_cases c13 : 0 ≤ x4_1
    ·rw [if_pos c13] at H
     have c13b0 := eq_true c13
     have c13b1 := decide_eq_true c13
     clear c13
     by_cases c14 : x4_1 ≤ (a0.size : Int)
     ·rw [if_pos c14] at H
      have c14b0 := eq_true c14
      have c14b1 := decide_eq_true c14
      clear c14
      by_cases c15 : x3_1.length < 8796093022208
      ·rw [if_pos c15] at H
       have LMc15 := aA c15
       clear c15
       obtain ⟨y457, hy457⟩ : ∃ y_ : List ByteArray, y_ = (x3_1 ++ [a0.extract (x4_1 : Int).toNat a0.size]) := ⟨_, rfl⟩
       replace H : (some y457) = some r := by first | (rw [hy457]; with_reducible exact H) | (have H2_ := (Option.bind_some _ _).symm.trans H; rw [hy457]; with_reducible exact H2_) | (have H2_ := (Option.bind_some _ _).symm.trans H; with_reducible exact H2_) | with_reducible exact H | (rw [hy457]; exact H) | exact H
       have Ny457 := aA hy457
       clear hy457
       obtain rfl := Option.some.inj H
       go_wp2_with (first | ((with_reducible refine gate_builtin (b := .append) (xs := #[.tmp 26, .tmp 30]) rfl ?_); at_builtin; refine Kd.R_append Kd.string (w0 := w) w.heap.size rfl (.tmp 26) (.tmp 30) 67 9 (.string ⟨#[]⟩) 16 rfl Tryz.underlying67 info9 rfl (by decide) (by omega) u3 x3_1 (a0.extract (x4_1 : Int).toNat a0.size) [.string (a0.extract (x4_1 : Int).toNat a0.size)] (fun _ => True) (fun _ => False) rfl rfl ?aP (fun _ hk => hk.elim) ?aF ?aO ?aB ?aS ?aL ?_; (case aP => exact rfl); (case aB => exact mB); (case aF => exact (fun _ _ => trivial)); (case aO => exact (mR HO_3.out)); (case aS => exact (below_size mB)); (case aL => have := LMc15.out; omega); intro v458 w16 ho hb hg hat; rw [← Ny457.out] at ho; have n0_ := aA (hb); have n1_ := aA (ho); clear HB HO_3; have HB := n0_; have HO459 := n1_; clear n0_ n1_ ho hb hg hat))
       go_ret
       exact ⟨_, by first | rfl | (simp [errW_none, errW_some] <;> rfl) | (simp [*, errW_none, errW_some] <;> rfl), by (with_reducible repeat (first | apply Kd.R_alloc | apply Kd.R_drewN | apply Kd.R_drew)); exact HO459.out, by repeat (first | (with_reducible first | exact HB.out | apply below_alloc | apply pw_below_drewN | apply below_drew1) | exact HB.out)⟩
      ·rw [if_neg c15] at H
       exact absurd H (by simp)
     ·rw [if_neg c14] at H
      exact absurd H (by simp)
    ·rw [if_neg c13] at H
     exact absurd H (by simp)
end Go.Proofs.YtjfknmlchdifjaaGreatDoorQ.P
namespace Go.Proofs.YtjfknmlchdifjaaGreatDoorQ.P
open Go.RowKit Go.Proofs.YtjfknmlchdifjaaGreatDoorW.PrintWords Go.Proofs.YtjfknmlchdifjaaGreatDoorW.PrintLast Go.Proofs.YtjfknmlchdifjaaGreatDoorW.PrintMore
attribute [local go_sem] max2_int min2_int max_two min_two max_three min_three max_four min_four
def foghornref10_Name.l0 : Nat → ByteArray → Int → Option (Bool)
 | 0, _, _ => none
 | k + 1, x0, x3 => if x3 < (x0.size : Int) then (if 0 ≤ x3 then (if (bt x0 x3) < 97 then (some false) else (if (bt x0 x3) > 122 then (some false) else (foghornref10_Name.l0 k x0 (wrap64 (x3 + 1))))) else (none)) else (if (x0.size : Int) ≥ 1 then (some (decide ((x0.size : Int) ≤ 8))) else (some false))
def foghornref10_Name.f (k : Nat) (a0 : ByteArray) : Option (Bool) := foghornref10_Name.l0 k a0 0
set_option maxHeartbeats 8000000 in
set_option maxRecDepth 100000 in
theorem foghornref10_Name.calls (k : Nat) (a0 : ByteArray) (r : Bool) (w : World) (h : foghornref10_Name.f k a0 = some r) :
  Calls Tryz.prog 51 #[.string a0] w fun e w' => e = .returned (.bool r) ∧ Drawn0 w w' := by
 have H : (foghornref10_Name.l0 k a0 0) = some r := h
 clear h
 have H' := aA H
 clear H
 go_enter Tryz.func51, Tryz.ntmps51
 go_wp2
 go_loopg [3] k (fun kq v3 w' => ∃ (x3_1 : Int), v3 = .int .i64 x3_1 ∧ Aside0 (foghornref10_Name.l0 kq a0 x3_1 = some r) ∧ Aside0 (kq ≤ k) ∧ Drawn0 w w')
 case atStart => exact ⟨(0), (by first | rfl | (simp; done) | (simp [*]; done)), H', ⟨Nat.le_refl _⟩, by repeat (first | exact Drawn0.refl _ | apply Drawn0.step)⟩
 case round =>
  clear H'
  obtain ⟨x3_1, rfl, HA, HK1, ⟨m1, rfl⟩⟩ := hrel
  cases gk with
  | zero => exact absurd HA.out (by simp [foghornref10_Name.l0])
  | succ k1 =>
   have H := HA.out
   clear HA
   simp only [foghornref10_Name.l0] at H
   by_cases c2 : x3_1 < (a0.size : Int)
   ·rw [if_pos c2] at H
    have c2b0 : decide (x3_1 < (a0.size : Int)) = true := decide_eq_true c2
    clear c2
    by_cases c3 : 0 ≤ x3_1
    ·rw [if_pos c3] at H
     have c3b0 : decide (0 ≤ x3_1) = true := decide_eq_true c3
     clear c3
     by_cases c5 : (bt a0 x3_1) < 97
     ·rw [if_pos c5] at H
      have c5b0 : decide ((bt a0 x3_1) < 97) = true := decide_eq_true c5
      clear c5
      obtain rfl := Option.some.inj H
      have p4 : 0 ≤ (x3_1 : Int) := of_decide_eq_true (by first | (with_reducible assumption) | assumption)
      have q4 : x3_1 < (a0.size : Int) := of_decide_eq_true (by first | (with_reducible assumption) | assumption)
      have hx4 := bt_at a0 x3_1
      replace p4 := eq_true p4
      replace q4 := eq_true q4
      go_wp2
      go_ret
      exact ⟨by first | rfl | (simp; done) | (simp [*]; done), by repeat (first | exact Drawn0.refl _ | apply Drawn0.step)⟩
     ·rw [if_neg c5] at H
      have c5b0 : decide ((bt a0 x3_1) < 97) = false := decide_eq_false c5
      clear c5
      by_cases c7 : (bt a0 x3_1) > 122
      ·rw [if_pos c7] at H
       have c7b0 : decide (122 < (bt a0 x3_1)) = true := decide_eq_true c7
       clear c7
       obtain rfl := Option.some.inj H
       have p4 : 0 ≤ (x3_1 : Int) := of_decide_eq_true (by first | (with_reducible assumption) | assumption)
       have q4 : x3_1 < (a0.size : Int) := of_decide_eq_true (by first | (with_reducible assumption) | assumption)
       have hx4 := bt_at a0 x3_1
       replace p4 := eq_true p4
       replace q4 := eq_true q4
       have p6 : 0 ≤ (x3_1 : Int) := of_decide_eq_true (by first | (with_reducible assumption) | assumption)
       have q6 : x3_1 < (a0.size : Int) := of_decide_eq_true (by first | (with_reducible assumption) | assumption)
       have hx6 := bt_at a0 x3_1
       replace p6 := eq_true p6
       replace q6 := eq_true q6
       go_wp2
       go_ret
       exact ⟨by first | rfl | (simp; done) | (simp [*]; done), by repeat (first | exact Drawn0.refl _ | apply Drawn0.step)⟩
      ·rw [if_neg c7] at H
       have c7b0 : decide (122 < (bt a0 x3_1)) = false := decide_eq_false c7
       clear c7
       have H' := aA H
       clear H
       have p4 : 0 ≤ (x3_1 : Int) := of_decide_eq_true (by first | (with_reducible assumption) | assumption)
       have q4 : x3_1 < (a0.size : Int) := of_decide_eq_true (by first | (with_reducible assumption) | assumption)
       have hx4 := bt_at a0 x3_1
       replace p4 := eq_true p4
       replace q4 := eq_true q4
       have p6 : 0 ≤ (x3_1 : Int) := of_decide_eq_true (by first | (with_reducible assumption) | assumption)
       have q6 : x3_1 < (a0.size : Int) := of_decide_eq_true (by first | (with_reducible assumption) | assumption)
       have hx6 := bt_at a0 x3_1
       replace p6 := eq_true p6
       replace q6 := eq_true q6
       go_wp2
       go_roundg k1
       case measure => have := HK1.out; omega
       case rel => exact ⟨(wrap64 (x3_1 + 1)), (by first | rfl | (simp; done) | (simp [*]; done)), H', ⟨by have := HK1.out; omega⟩, by repeat (first | exact Drawn0.refl _ | apply Drawn0.step)⟩
    ·rw [if_neg c3] at H
     exact absurd H (by simp)
   ·rw [if_neg c2] at H
    have c2b0 : decide (x3_1 < (a0.size : Int)) = false := decide_eq_false c2
    clear c2
    by_cases c8 : (a0.size : Int) ≥ 1
    ·rw [if_pos c8] at H
     have c8b0 : decide (1 ≤ (a0.size : Int)) = true := decide_eq_true c8
     have c8b1 : decide (1 ≤ a0.size) = true := decide_eq_true (by omega)
     clear c8
     obtain rfl := Option.some.inj H
     go_wp2
     go_ret
     exact ⟨by first | rfl | (simp; done) | (simp [*]; done), by repeat (first | exact Drawn0.refl _ | apply Drawn0.step)⟩
    ·rw [if_neg c8] at H
     have c8b0 : decide (1 ≤ (a0.size : Int)) = false := decide_eq_false c8
     have c8b1 : decide (1 ≤ a0.size) = false := decide_eq_false (by omega)
     clear c8
     obtain rfl := Option.some.inj H
     go_wp2
     go_ret
     exact ⟨by first | rfl | (simp; done) | (simp [*]; done), by repeat (first | exact Drawn0.refl _ | apply Drawn0.step)⟩
end Go.Proofs.YtjfknmlchdifjaaGreatDoorQ.P
namespace Go.Proofs.YtjfknmlchdifjaaGreatDoor
open Go.RowKit
attribute [local go_sem high] ext_size ext_cell ext_frozen alloc_cell alloc_frozen
theorem name_len {s : ByteArray} (h : ∀ k (hk : k < s.size), azB (s[k]'hk) = true) : nameB s = (decide (1 ≤ s.size) && decide (s.size ≤ 8)) := by
  unfold nameB
  rw [all_good h, Bool.true_and]
theorem refName_any (s : ByteArray) (w : World) (hs : s.size ≤ maxLen) :
    Calls Tryz.prog 51 #[.string s] w fun e w' => e = .returned (.bool (nameB s)) ∧ Below w.heap.size w w' := by
  unfold maxLen at hs
  go_enter Tryz.func51, Tryz.ntmps51
  go_wp2
  go_loopw [3] (fun i wr => ∃ k : Nat, k ≤ s.size ∧ i = .int .i64 k ∧ (∀ j (hj : j < s.size), j < k → azB (s[j]'hj) = true) ∧ Below w.heap.size w wr) (fun i _ => s.size - (intOf i).toNat)
  case atStart => exact ⟨0, Nat.zero_le _, rfl, fun j _ hj => absurd hj (by omega), Below.refl _ _⟩
  case round =>
    obtain ⟨k, hk, rfl, hall, hbel⟩ := hrel
    have HA := Lib.hid hall
    clear hall
    obtain ⟨xr, rfl⟩ := ext_of hbel
    clear hbel
    by_cases hlt : k < s.size
    · go_wp2
      all_goals (try go_quiet (fail)); (try go_wp2)
      all_goals first
        | (go_ret; exact ⟨ret_bool (name_no hlt (az_no (by omega))), (by repeat (first | exact Below.refl _ _ | apply bal | apply bext | apply bdr | apply bdrN | (refine bst ?_ _ (by simp only [ext_size, size_alloc, size_set]; omega))))⟩)
        | (refine ⟨⟨k + 1, by omega, by go_num, fun j hj hjk => ?_, (by repeat (first | exact Below.refl _ _ | apply bal | apply bext | apply bdr | apply bdrN | (refine bst ?_ _ (by simp only [ext_size, size_alloc, size_set]; omega))))⟩, by simp [intOf]; omega⟩
           rcases Nat.lt_succ_iff_lt_or_eq.1 hjk with h | rfl
           · exact HA.out j hj h
           · exact az_yes (by omega))
    · have hr := name_len (fun j hj => HA.out j hj (by omega))
      have HR := Lib.hid hr
      clear hr
      go_wp2
      all_goals
        go_ret
        refine ⟨ret_bool ?_, (by repeat (first | exact Below.refl _ _ | apply bal | apply bext | apply bdr | apply bdrN | (refine bst ?_ _ (by simp only [ext_size, size_alloc, size_set]; omega))))⟩
        rw [HR.out]
        first | (rw [Bool.eq_iff_iff]; simp; omega) | (simp [*]; done) | (simp; omega)
theorem val_len {s : ByteArray} (h : ∀ k (hk : k < s.size), avB (s[k]'hk) = true) : valB s = decide (s.size ≤ 8) := by
  unfold valB
  rw [all_good h, Bool.true_and]
set_option maxHeartbeats 1000000 in
theorem refValue_any (s : ByteArray) (w : World) (hs : s.size ≤ maxLen) :
    Calls Tryz.prog 52 #[.string s] w fun e w' => e = .returned (.bool (valB s)) ∧ Below w.heap.size w w' := by
  unfold maxLen at hs
  go_enter Tryz.func52, Tryz.ntmps52
  go_wp2
  go_loopw [3] (fun i wr => ∃ k : Nat, k ≤ s.size ∧ i = .int .i64 k ∧ (∀ j (hj : j < s.size), j < k → avB (s[j]'hj) = true) ∧ Below w.heap.size w wr) (fun i _ => s.size - (intOf i).toNat)
  case atStart => exact ⟨0, Nat.zero_le _, rfl, fun j _ hj => absurd hj (by omega), Below.refl _ _⟩
  case round =>
    obtain ⟨k, hk, rfl, hall, hbel⟩ := hrel
    have HA := Lib.hid hall
    clear hall
    obtain ⟨xr, rfl⟩ := ext_of hbel
    clear hbel
    by_cases hlt : k < s.size
    · go_wp2
      all_goals first
        | (go_ret; exact ⟨ret_bool (val_no hlt (av_no (by first | omega | (rename_i h; simp at h; omega) | (simp_all; omega)))), (by repeat (first | exact Below.refl _ _ | apply bal | apply bext | apply bdr | apply bdrN | (refine bst ?_ _ (by simp only [ext_size, size_alloc, size_set]; omega))))⟩)
        | (refine ⟨⟨k + 1, by omega, by go_num, fun j hj hjk => ?_, (by repeat (first | exact Below.refl _ _ | apply bal | apply bext | apply bdr | apply bdrN | (refine bst ?_ _ (by simp only [ext_size, size_alloc, size_set]; omega))))⟩, by simp [intOf]; omega⟩
           rcases Nat.lt_succ_iff_lt_or_eq.1 hjk with h | rfl
           · exact HA.out j hj h
           · exact av_yes (by first | omega | (rename_i h _; simp at h; omega) | (rename_i h; simp at h; omega)))
    · have hr := val_len (fun j hj => HA.out j hj (by omega))
      have HR := Lib.hid hr
      clear hr
      go_wp2
      all_goals
        go_ret
        refine ⟨ret_bool ?_, (by repeat (first | exact Below.refl _ _ | apply bal | apply bext | apply bdr | apply bdrN | (refine bst ?_ _ (by simp only [ext_size, size_alloc, size_set]; omega))))⟩
        rw [HR.out]
        first | (rw [Bool.eq_iff_iff]; simp; omega) | (simp [*]; done) | (simp; omega)
end Go.Proofs.YtjfknmlchdifjaaGreatDoor
namespace Go.Proofs.YtjfknmlchdifjaaGreatDoorQ.P
open Go.RowKit Go.Proofs.YtjfknmlchdifjaaGreatDoorW.PrintWords Go.Proofs.YtjfknmlchdifjaaGreatDoorW.PrintLast Go.Proofs.YtjfknmlchdifjaaGreatDoorW.PrintMore
attribute [local go_sem] max2_int min2_int max_two min_two max_three min_three max_four min_four
def foghornref12_sign.f (a0 : Int) : Option (ByteArray) := if 0 ≤ a0 then (if a0 ≤ (wrap64 (a0 + 1)) then (if (wrap64 (a0 + 1)) ≤ 4 then (some ((⟨#[61, 33, 94, 63]⟩ : ByteArray).extract (a0 : Int).toNat ((wrap64 (a0 + 1)) : Int).toNat)) else (none)) else (none)) else (none)
set_option maxHeartbeats 8000000 in
set_option maxRecDepth 100000 in
theorem foghornref12_sign.calls (a0 : Int) (r : ByteArray) (w : World) (h : foghornref12_sign.f a0 = some r) :
  Calls Tryz.prog 42 #[.int .i64 a0] w fun e w' => e = .returned (.string r) ∧ Drawn0 w w' := by
 have H : (if 0 ≤ a0 then (if a0 ≤ (wrap64 (a0 + 1)) then (if (wrap64 (a0 + 1)) ≤ 4 then (some ((⟨#[61, 33, 94, 63]⟩ : ByteArray).extract (a0 : Int).toNat ((wrap64 (a0 + 1)) : Int).toNat)) else (none)) else (none)) else (none)) = some r := h
 clear h
 by_cases c2 : 0 ≤ a0
 ·rw [if_pos c2] at H
  have c2b0 := eq_true c2
  have c2b1 := decide_eq_true c2
  clear c2
  by_cases c3 : a0 ≤ (wrap64 (a0 + 1))
  ·rw [if_pos c3] at H
   have c3b0 := eq_true c3
   have c3b1 := decide_eq_true c3
   by_cases c4 : (wrap64 (a0 + 1)) ≤ 4
   ·rw [if_pos c4] at H
    have c4b0 := eq_true c4
    have c4b1 := decide_eq_true c4
    obtain rfl := Option.some.inj H
    go_enter Tryz.func42, Tryz.ntmps42
    go_wp2
    go_ret
    exact ⟨by first | rfl | (simp; done) | (simp [*]; done), by repeat (first | exact Drawn0.refl _ | apply Drawn0.step)⟩
   ·rw [if_neg c4] at H
    exact absurd H (by simp)
  ·rw [if_neg c3] at H
   exact absurd H (by simp)
 ·rw [if_neg c2] at H
  exact absurd H (by simp)
end Go.Proofs.YtjfknmlchdifjaaGreatDoorQ.P
namespace Go.Proofs.YtjfknmlchdifjaaGreatDoor
open Go.RowKit
attribute [local go_sem high] ext_size ext_cell ext_frozen alloc_cell alloc_frozen
theorem refMatcher_any (x : Mat) (w : World) (h1 : x.name.size ≤ maxLen) (h2 : x.value.size ≤ maxLen) :
    Calls Tryz.prog 22 #[matV x] w fun e w' => e = .returned (.bool (matB x)) ∧ Below w.heap.size w w' := by
  obtain ⟨k, n, v⟩ := x
  have HN := Lib.hid fun W => refName_any n W h1
  have HV := Lib.hid fun W => refValue_any v W h2
  unfold matV matB
  simp only at h1 h2 ⊢
  obtain ⟨b1, hb1⟩ : ∃ b, b = nameB n := ⟨_, rfl⟩
  obtain ⟨b2, hb2⟩ : ∃ b, b = valB v := ⟨_, rfl⟩
  rw [← hb1] at HN ⊢
  rw [← hb2] at HV ⊢
  clear hb1 hb2
  have he := empty_dec v
  by_cases c1 : 0 ≤ k ∧ k ≤ 3
  · obtain ⟨c1, c2⟩ := c1
    cases b1
    case false =>
      go_enter Tryz.func22, Tryz.ntmps22
      go_wp2_with fail
      refine (HN.out _).mono ?_
      rintro e w' ⟨rfl, hb⟩
      obtain ⟨y1, rfl⟩ := ext_of hb
      clear hb
      go_wp2_with fail
      go_ret
      exact ⟨ret_bool (by simp [c1, c2]), (by repeat (first | exact Below.refl _ _ | apply bal | apply bext | apply bdr | apply bdrN | (refine bst ?_ _ (by simp only [ext_size, size_alloc, size_set]; omega))))⟩
    case true =>
      cases b2
      case false =>
        go_enter Tryz.func22, Tryz.ntmps22
        go_wp2_with fail
        refine (HN.out _).mono ?_
        rintro e w' ⟨rfl, hb⟩
        obtain ⟨y1, rfl⟩ := ext_of hb
        clear hb
        go_wp2_with fail
        refine (HV.out _).mono ?_
        rintro e w' ⟨rfl, hb⟩
        obtain ⟨y2, rfl⟩ := ext_of hb
        clear hb
        go_wp2_with fail
        go_ret
        exact ⟨ret_bool (by simp [c1, c2]), (by repeat (first | exact Below.refl _ _ | apply bal | apply bext | apply bdr | apply bdrN | (refine bst ?_ _ (by simp only [ext_size, size_alloc, size_set]; omega))))⟩
      case true =>
        by_cases c3 : k = 3
        · subst c3
          have HE := Lib.hid he
          clear he
          go_enter Tryz.func22, Tryz.ntmps22
          go_wp2_with fail
          refine (HN.out _).mono ?_
          rintro e w' ⟨rfl, hb⟩
          obtain ⟨y1, rfl⟩ := ext_of hb
          clear hb
          go_wp2_with fail
          refine (HV.out _).mono ?_
          rintro e w' ⟨rfl, hb⟩
          obtain ⟨y2, rfl⟩ := ext_of hb
          clear hb
          go_wp2_with fail
          all_goals
            go_ret
            refine ⟨ret_bool ?_, (by repeat (first | exact Below.refl _ _ | apply bal | apply bext | apply bdr | apply bdrN | (refine bst ?_ _ (by simp only [ext_size, size_alloc, size_set]; omega))))⟩
            have := HE.out
            simp_all
        · have c4 : (k != 3) = true := by simpa using c3
          clear he
          go_enter Tryz.func22, Tryz.ntmps22
          go_wp2_with fail
          refine (HN.out _).mono ?_
          rintro e w' ⟨rfl, hb⟩
          obtain ⟨y1, rfl⟩ := ext_of hb
          clear hb
          go_wp2_with fail
          refine (HV.out _).mono ?_
          rintro e w' ⟨rfl, hb⟩
          obtain ⟨y2, rfl⟩ := ext_of hb
          clear hb
          go_wp2_with fail
          go_ret
          exact ⟨ret_bool (by simp [c1, c2, c3]), (by repeat (first | exact Below.refl _ _ | apply bal | apply bext | apply bdr | apply bdrN | (refine bst ?_ _ (by simp only [ext_size, size_alloc, size_set]; omega))))⟩
  · clear he
    rcases (show k < 0 ∨ 3 < k by omega) with c2 | c2
    all_goals
      go_enter Tryz.func22, Tryz.ntmps22
      go_wp2_with fail
      all_goals
        go_ret
        refine ⟨ret_bool ?_, (by repeat (first | exact Below.refl _ _ | apply bal | apply bext | apply bdr | apply bdrN | (refine bst ?_ _ (by simp only [ext_size, size_alloc, size_set]; omega))))⟩
        first
          | (rw [decide_eq_false (p := 0 ≤ k) (by omega)]; rfl)
          | (rw [decide_eq_false (p := k ≤ 3) (by omega)]; simp)
def matsB (ms : List Mat) : Bool := decide (ms.length ≤ 4) && !ms.any (fun m => !matB m)
theorem mats_no {xs : List Mat} {k : Nat} (h : k < xs.length) (hp : matB xs[k] = false) : false = matsB xs := by
  unfold matsB
  have : xs.any (fun x => !matB x) = true := List.any_eq_true.2 ⟨xs[k], List.getElem_mem h, by rw [hp]; rfl⟩
  rw [this]
  simp
theorem mats_all {xs : List Mat} (h : ∀ k (hk : k < xs.length), matB xs[k] = true) : matsB xs = decide (xs.length ≤ 4) := by
  unfold matsB
  have : xs.any (fun x => !matB x) = false := by
    rw [List.any_eq_false]
    intro x hx
    obtain ⟨k, hk, rfl⟩ := List.mem_iff_getElem.1 hx
    simp [h k hk]
  rw [this]
  simp
theorem refMatchers_any (v : Value) (xs : List Mat) (w : World) (hS : SlAt w v 3 xs.length (matsC xs)) (hM : MatsOk xs) :
    Calls Tryz.prog 94 #[v] w fun e w' => e = .returned (.bool (matsB xs)) ∧ Below w.heap.size w w' := by
  obtain ⟨a, c, rfl, hnc, hcm⟩ := hS.form
  have hm := hS.le
  have HS := Lib.hid hS
  have HM := Lib.hid hM
  unfold maxLen at hm
  clear hS hM
  go_enter Tryz.func94, Tryz.ntmps94
  go_wp2
  go_loopw [7] (fun i wr => ∃ k : Nat, k ≤ xs.length ∧ i = .int .i64 k ∧ (∀ j (hj : j < xs.length), j < k → matB xs[j] = true) ∧ Below w.heap.size w wr) (fun i _ => xs.length - (intOf i).toNat)
  case atStart => exact ⟨0, Nat.zero_le _, rfl, fun j _ hj => absurd hj (by omega), Below.refl _ _⟩
  case round =>
    obtain ⟨k, hk, rfl, hall, hbel⟩ := hrel
    have HA := Lib.hid hall
    clear hall
    obtain ⟨xr, rfl⟩ := ext_of hbel
    clear hbel
    by_cases hlt : k < xs.length
    · obtain ⟨b, o, rfl, hbl, hcell⟩ := HS.out.at (by omega)
      have g0 := mats_get xs k hlt
      have k0 : w.cell? ⟨b, o + k * 3, none⟩ = some (.int .i64 xs[k].kind) := hcell _ _ g0.1
      have k1 : w.cell? ⟨b, o + k * 3 + 1, none⟩ = some (.string xs[k].name) := by rw [Nat.add_assoc]; exact hcell _ _ g0.2.1
      have k2 : w.cell? ⟨b, o + k * 3 + 2, none⟩ = some (.string xs[k].value) := by rw [Nat.add_assoc]; exact hcell _ _ g0.2.2
      have hok := HM.out xs[k] (List.getElem_mem hlt)
      have hmm := fun W => refMatcher_any xs[k] W hok.1 hok.2
      unfold matV at hmm
      have HMM := Lib.hid hmm
      clear hmm hcell g0 hok
      cases hb : matB xs[k]
      all_goals
        rw [hb] at HMM
        have HB := Lib.hid hb
        clear hb
        go_wp2_with fail
        refine (HMM.out _).mono ?_
        rintro e w' ⟨rfl, hb⟩
        obtain ⟨y1, rfl⟩ := ext_of hb
        clear hb
        go_wp2_with fail
      · go_ret
        exact ⟨ret_bool (mats_no hlt HB.out), (by repeat (first | exact Below.refl _ _ | apply bal | apply bext | apply bdr | apply bdrN | (refine bst ?_ _ (by simp only [ext_size, size_alloc, size_set]; omega))))⟩
      · refine ⟨⟨k + 1, by omega, by go_num, fun j hj hjk => ?_, (by repeat (first | exact Below.refl _ _ | apply bal | apply bext | apply bdr | apply bdrN | (refine bst ?_ _ (by simp only [ext_size, size_alloc, size_set]; omega))))⟩, by simp [intOf]; omega⟩
        rcases Nat.lt_succ_iff_lt_or_eq.1 hjk with h | rfl
        · exact HA.out j hj h
        · exact HB.out
    · have hr := mats_all (fun j hj => HA.out j hj (by omega))
      have HR := Lib.hid hr
      clear hr
      go_wp2
      all_goals
        go_ret
        refine ⟨ret_bool ?_, (by repeat (first | exact Below.refl _ _ | apply bal | apply bext | apply bdr | apply bdrN | (refine bst ?_ _ (by simp only [ext_size, size_alloc, size_set]; omega))))⟩
        rw [HR.out]
        first | (rw [Bool.eq_iff_iff]; simp; omega) | (simp [*]; done) | (simp; omega)
end Go.Proofs.YtjfknmlchdifjaaGreatDoor
namespace Go.Proofs.YtjfknmlchdifjaaGreatDoorQ.P
open Go.RowKit Go.Proofs.YtjfknmlchdifjaaGreatDoorW.PrintWords Go.Proofs.YtjfknmlchdifjaaGreatDoor
def foghornref10_Matcher.f (a0_0 : Int) (a0_1 : ByteArray) (a0_2 : ByteArray) : Option (Bool) := if matOkB ⟨a0_0, a0_1, a0_2⟩ = true then some (matB ⟨a0_0, a0_1, a0_2⟩) else none
theorem foghornref10_Matcher.calls (a0_0 : Int) (a0_1 : ByteArray) (a0_2 : ByteArray) (r : Bool) (w : World) (h : foghornref10_Matcher.f a0_0 a0_1 a0_2 = some r) :
    Calls Tryz.prog 22 #[.agg #[.int .i64 a0_0, .string a0_1, .string a0_2]] w fun e w' => e = .returned (.bool r) ∧ Below w.heap.size w w' := by
  obtain ⟨h1, rfl⟩ := if_some h
  simp only [matOkB, Bool.and_eq_true, decide_eq_true_eq] at h1
  exact refMatcher_any ⟨a0_0, a0_1, a0_2⟩ w h1.1 h1.2
def foghornref10_Matchers.f (l0 : List S32) : Option Bool := if matsOkB l0 = true then some (matsB (l0.map toMat)) else none
theorem foghornref10_Matchers.calls (A0 : Option Addr) (c0 : Nat) (l0 : List S32) (r : Bool) (w : World) (hr0 : Kd.C k32 w A0 l0.length l0) (hc0 : l0.length ≤ c0) (h : foghornref10_Matchers.f l0 = some r) :
    Calls Tryz.prog 94 #[.slice A0 l0.length c0] w fun e w' => e = .returned (.bool r) ∧ Below w.heap.size w w' := by
  obtain ⟨h1, rfl⟩ := if_some h
  exact refMatchers_any _ _ w (mats_c hr0 hc0) (mats_ok h1)
end Go.Proofs.YtjfknmlchdifjaaGreatDoorQ.P
namespace Go.Proofs.YtjfknmlchdifjaaGreatDoorQ.P
open Go.RowKit Go.Proofs.YtjfknmlchdifjaaGreatDoorW.PrintWords Go.Proofs.YtjfknmlchdifjaaGreatDoorW.PrintLast Go.Proofs.YtjfknmlchdifjaaGreatDoorW.PrintMore
attribute [local go_sem] max2_int min2_int max_two min_two max_three min_three max_four min_four
mutual
def foghornref12_Asked.l0 : Nat → ByteArray → Int → Option (Int × ByteArray × ByteArray × Bool)
 | 0, _, _ => none
 | k + 1, x0, x4 => if x4 < (x0.size : Int) then (foghornref12_Asked.l1 k x0 x4 0) else (some (0, (⟨#[]⟩ : ByteArray), (⟨#[]⟩ : ByteArray), false))
def foghornref12_Asked.l1 : Nat → ByteArray → Int → Int → Option (Int × ByteArray × ByteArray × Bool)
 | 0, _, _, _ => none
 | k + 1, x0, x4, x5 => if x5 < 4 then (if 0 ≤ x4 then (if x4 ≤ (wrap64 (x4 + 1)) then (if (wrap64 (x4 + 1)) ≤ (x0.size : Int) then ((foghornref12_sign.f x5).bind fun t507 => (if (x0.extract (x4 : Int).toNat ((wrap64 (x4 + 1)) : Int).toNat).toList = t507.toList then (if x4 ≤ (x0.size : Int) then (if 0 ≤ (wrap64 (x4 + 1)) then ((foghornref10_Matcher.f x5 (x0.extract 0 (x4 : Int).toNat) (x0.extract ((wrap64 (x4 + 1)) : Int).toNat x0.size)).bind fun t509 => (some (x5, x0.extract 0 (x4 : Int).toNat, x0.extract ((wrap64 (x4 + 1)) : Int).toNat x0.size, t509))) else (none)) else (none)) else (foghornref12_Asked.l1 k x0 x4 (wrap64 (x5 + 1))))) else (none)) else (none)) else (none)) else (foghornref12_Asked.l0 k x0 (wrap64 (x4 + 1)))
end
def foghornref12_Asked.f (k : Nat) (a0 : ByteArray) : Option (Int × ByteArray × ByteArray × Bool) := foghornref12_Asked.l0 k a0 0
def foghornref12_Asked.T7 : Bool × List (List Nat × List Nat) := (true, [([], []), ([], []), ([], []), ([2], [2]), ([0, 1, 3], [0, 1, 3]), ([], []), ([5], [5]), ([4, 6], [4, 6])])
def foghornref12_Asked.B7 : List Nat := [0, 0, 0, 4, 15, 0, 32, 127]
theorem foghornref12_Asked.tab7 : rtab .any (opsOf Tryz.f13 7) = foghornref12_Asked.T7 := by kernel_rfl
theorem foghornref12_Asked.bits7 : waitsOk foghornref12_Asked.T7.2 foghornref12_Asked.B7 = true := by kernel_rfl
def foghornref12_Asked.T8 : Bool × List (List Nat × List Nat) := (true, [([], []), ([], []), ([], []), ([1, 2], [1, 2]), ([], []), ([], []), ([5], [5]), ([4, 6], [4, 6]), ([0, 3, 7], [0, 3, 7]), ([], []), ([9, 8, 0, 1, 2, 3, 4, 5, 6, 7, 8, 9], [8, 9])])
def foghornref12_Asked.B8 : List Nat := [0, 0, 0, 6, 0, 0, 32, 112, 255, 0, 1023]
theorem foghornref12_Asked.tab8 : rtab .any (opsOf Tryz.f13 8) = foghornref12_Asked.T8 := by kernel_rfl
theorem foghornref12_Asked.bits8 : waitsOk foghornref12_Asked.T8.2 foghornref12_Asked.B8 = true := by kernel_rfl
set_option maxHeartbeats 8000000 in
set_option maxRecDepth 100000 in
theorem foghornref12_Asked.calls (k : Nat) (a0 : ByteArray) (r1 : Int) (r2 : ByteArray) (r3 : ByteArray) (r4 : Bool) (w : World) (h : foghornref12_Asked.f k a0 = some (r1, r2, r3, r4)) :
  Calls Tryz.prog 13 #[.string a0] w fun e w' => e = .returned (.tuple #[.agg #[.int .i64 r1, .string r2, .string r3], .bool r4]) ∧ Below w.heap.size w w' := by
 have hu32 := Tryz.underlying32
 have HB := aA (Below.refl w.heap.size w)
 have H : (foghornref12_Asked.l0 k a0 0) = some (r1, r2, r3, r4) := h
 clear h
 have H' := aA H
 clear H
 go_enter Tryz.func13, Tryz.ntmps13
 go_wp2_with (first | ((with_reducible refine gate_dst (N := 2) rfl ?_); refine box_event ?hg (N := 2) ?hd (cs := #[.int .i64 0, .string (⟨#[]⟩ : ByteArray), .string (⟨#[]⟩ : ByteArray)]) (t := 32) ?hr ?_; (case hd => rfl); (case hg => rfl); (case hr => first | (go_simp; done) | (go_simp; rfl)); intro gb506 hg w2 hbox hb; have n0_ := aA (below_step mB hb); have n1_ := aA (hbox); have n2_ := aA ((bZ hg mB)); have n3_ := aA ((bZ hg mB)); clear HB; have HB := n0_; have BK506 := n1_; have GW506 := n2_; have GE506 := n3_; clear n0_ n1_ n2_ n3_ hb hbox hg))
 go_loopg [4] k (fun kq v4 w' => ∃ (x4_1 : Int) (x507000_1 : Int) (x507001_1 : ByteArray) (x507002_1 : ByteArray), v4 = .int .i64 x4_1 ∧ Aside0 (foghornref12_Asked.l0 kq a0 x4_1 = some (r1, r2, r3, r4)) ∧ Aside0 (kq ≤ k) ∧ Aside0 (w'.heap[gb506]? = some (.cells #[.int .i64 x507000_1, .string x507001_1, .string x507002_1] 32 (0, 0))) ∧ Aside0 (Below w.heap.size w w'))
 case atStart => exact ⟨(0), (0), ((⟨#[]⟩ : ByteArray)), ((⟨#[]⟩ : ByteArray)), (by first | rfl | (simp; done) | (simp [*]; done)), H', ⟨Nat.le_refl _⟩, ⟨by (with_reducible repeat (first | refine blk_drewN ?_ _ | refine blk_drew ?_ | refine blk_alloc ?_ _)); exact BK506.out⟩, ⟨by repeat (first | (with_reducible first | exact HB.out | apply below_alloc | apply pw_below_drewN | apply below_drew1 | refine below_set ?_ GE506.out) | exact HB.out)⟩⟩
 case round =>
  clear H'
  try clear c1
  try clear p2
  obtain ⟨x4_1, x507000_1, x507001_1, x507002_1, rfl, HA, HK1, BK506, HB⟩ := hrel
  cases gk with
  | zero => exact absurd HA.out (by simp [foghornref12_Asked.l0])
  | succ k1 =>
   have H := HA.out
   clear HA
   simp only [foghornref12_Asked.l0] at H
   by_cases c3 : x4_1 < (a0.size : Int)
   ·rw [if_pos c3] at H
    have c3b0 : decide (x4_1 < (a0.size : Int)) = true := decide_eq_true c3
    clear c3
    have H' := aA H
    clear H
    go_wp2
    go_loopg [5] k1 (fun kq v5 w' => ∃ (x5_2 : Int) (x507000_2 : Int) (x507001_2 : ByteArray) (x507002_2 : ByteArray), v5 = .int .i64 x5_2 ∧ Aside0 (foghornref12_Asked.l1 kq a0 x4_1 x5_2 = some (r1, r2, r3, r4)) ∧ Aside0 (kq ≤ k1) ∧ Aside0 (w'.heap[gb506]? = some (.cells #[.int .i64 x507000_2, .string x507001_2, .string x507002_2] 32 (0, 0))) ∧ Aside0 (Below w.heap.size w w'))
    case atStart => exact ⟨(0), (x507000_1), (x507001_1), (x507002_1), (by first | rfl | (simp; done) | (simp [*]; done)), H', ⟨Nat.le_refl _⟩, ⟨by (with_reducible repeat (first | refine blk_drewN ?_ _ | refine blk_drew ?_ | refine blk_alloc ?_ _)); exact BK506.out⟩, ⟨by repeat (first | (with_reducible first | exact HB.out | apply below_alloc | apply pw_below_drewN | apply below_drew1 | refine below_set ?_ GE506.out) | exact HB.out)⟩⟩
    case round =>
     clear H'
     try clear c1
     try clear p2
     try clear c3
     try clear c3b0
     try clear p2
     obtain ⟨x5_2, x507000_2, x507001_2, x507002_2, rfl, HA, HK2, BK506, HB⟩ := hrel
     cases gk with
     | zero => exact absurd HA.out (by simp [foghornref12_Asked.l1])
     | succ k2 =>
      have H := HA.out
      clear HA
      simp only [foghornref12_Asked.l1] at H
      by_cases c4 : x5_2 < 4
      ·rw [if_pos c4] at H
       have c4b0 : decide (x5_2 < 4) = true := decide_eq_true c4
       clear c4
       by_cases c5 : 0 ≤ x4_1
       ·rw [if_pos c5] at H
        have c5b0 := eq_true c5
        have c5b1 := decide_eq_true c5
        clear c5
        by_cases c6 : x4_1 ≤ (wrap64 (x4_1 + 1))
        ·rw [if_pos c6] at H
         have c6b0 := eq_true c6
         have c6b1 := decide_eq_true c6
         by_cases c7 : (wrap64 (x4_1 + 1)) ≤ (a0.size : Int)
         ·rw [if_pos c7] at H
          have c7b0 := eq_true c7
          have c7b1 := decide_eq_true c7
          replace H := Option.bind_eq_some_iff.mp H
          obtain ⟨t507, A80, H⟩ := H
          replace H : (if (a0.extract (x4_1 : Int).toNat ((wrap64 (x4_1 + 1)) : Int).toNat).toList = t507.toList then (if x4_1 ≤ (a0.size : Int) then (if 0 ≤ (wrap64 (x4_1 + 1)) then ((foghornref10_Matcher.f x5_2 (a0.extract 0 (x4_1 : Int).toNat) (a0.extract ((wrap64 (x4_1 + 1)) : Int).toNat a0.size)).bind fun t509 => (some (x5_2, a0.extract 0 (x4_1 : Int).toNat, a0.extract ((wrap64 (x4_1 + 1)) : Int).toNat a0.size, t509))) else (none)) else (none)) else (foghornref12_Asked.l1 k2 a0 x4_1 (wrap64 (x5_2 + 1)))) = some (r1, r2, r3, r4) := H
          have A8 := aA A80
          clear A80
          by_cases c9 : (a0.extract (x4_1 : Int).toNat ((wrap64 (x4_1 + 1)) : Int).toNat).toList = t507.toList
          ·rw [if_pos c9] at H
           have c9b0 : ((a0.extract (x4_1 : Int).toNat ((wrap64 (x4_1 + 1)) : Int).toNat).toList == t507.toList) = true := beq_iff_eq.mpr c9
           have c9b1 : ((a0.extract (x4_1 : Int).toNat ((wrap64 (x4_1 + 1)) : Int).toNat).toList != t507.toList) = false := bne_eq_false_iff_eq.mpr c9
           clear c9
           have c10b0 := eq_true (of_decide_eq_true (by first | (with_reducible assumption) | assumption) : 0 ≤ x4_1)
           by_cases c11 : x4_1 ≤ (a0.size : Int)
           ·rw [if_pos c11] at H
            have c11b0 := eq_true c11
            have c11b1 := decide_eq_true c11
            clear c11
            obtain ⟨ji12, hji12⟩ : ∃ j_ : Int, (wrap64 (x4_1 + 1)) = j_ := ⟨_, rfl⟩
            replace H : (if 0 ≤ (ji12) then ((foghornref10_Matcher.f x5_2 (a0.extract 0 (x4_1 : Int).toNat) (a0.extract ((ji12) : Int).toNat a0.size)).bind fun t509 => (some (x5_2, a0.extract 0 (x4_1 : Int).toNat, a0.extract ((ji12) : Int).toNat a0.size, t509))) else (none)) = some (r1, r2, r3, r4) := by first | (rw [hji12] at H; exact H) | (simp only [hji12] at H ⊢; exact H)
            (try rw [hji12] at c6b0)
            (try rw [hji12] at c6b1)
            (try rw [hji12] at c6)
            (try rw [hji12] at c7b0)
            (try rw [hji12] at c7b1)
            (try rw [hji12] at c7)
            (try rw [hji12] at c9b0)
            (try rw [hji12] at c9b1)
            (try rw [hji12] at A8)
            have hji12w : (IntKind.i64.wrap (x4_1 + 1)) = ji12 := (i64_w _).trans hji12
            by_cases c13 : 0 ≤ (ji12)
            ·rw [if_pos c13] at H
             have c13b0 := eq_true c13
             have c13b1 := decide_eq_true c13
             clear c13
             have c14b0 := eq_true (of_decide_eq_true (by first | (with_reducible assumption) | assumption) : (ji12) ≤ (a0.size : Int))
             replace H := Option.bind_eq_some_iff.mp H
             obtain ⟨t509, A150, H⟩ := H
             replace H : (some (x5_2, a0.extract 0 (x4_1 : Int).toNat, a0.extract ((ji12) : Int).toNat a0.size, t509)) = some (r1, r2, r3, r4) := H
             have A15 := aA A150
             clear A150
             simp only [Option.some.injEq, Prod.mk.injEq] at H
             obtain ⟨rfl, rfl, rfl, rfl⟩ := H
             try go_wp2
             have n0_ := aA (blk_drew BK506.out)
             have n1_ := aA (below_drew1 HB.out)
             clear BK506
             clear HB
             have BK506 := n0_
             have HB := n1_
             clear n0_ n1_
             refine start_ (n := 8) (S := fun w' => True) (ds := []) (bA 8 0) (by kernel_rfl) rfl rfl trivial (fun hHeld => ?_); refine with_tabW foghornref12_Asked.tab7 foghornref12_Asked.bits7 (fun HT_ HW_ => ?_)
             generalize wr.drew = w16 at BK506 HB hHeld ⊢
             refine pure_ (i := 0) (N := some 17) (v := ?_) (a' := ?_) (bA 8 1) rfl rfl (any_of HT_.out (by kernel_rfl)) (fun _ _ _ h => h) (Or.inl ⟨by rfl, ?_⟩) ?_ ?_
             rotate_left
             ·intro w'
              go_simp
              with_reducible rfl
             rotate_left
             ·exact mP
             refine pure_ (i := 1) (N := some 18) (v := ?_) (a' := ?_) (bA 8 3) rfl rfl (any_of HT_.out (by kernel_rfl)) (fun _ _ _ h => h) (Or.inl ⟨by rfl, ?_⟩) ?_ ?_
             rotate_left
             ·intro w'
              go_simp
              with_reducible rfl
             rotate_left
             ·exact mP
             refine pure_ (i := 2) (N := some 19) (v := ?_) (a' := ?_) (bA 8 7) rfl rfl (any_of HT_.out (by kernel_rfl)) (fun _ _ _ h => h) (Or.inl ⟨by rfl, ?_⟩) ?_ ?_
             rotate_left
             ·intro w'
              go_simp
              with_reducible rfl
             rotate_left
             ·exact mP
             refine pure_ (i := 3) (N := some 20) (v := ?_) (a' := ?_) (bA 8 15) rfl rfl (any_of HT_.out (by kernel_rfl)) (fun _ _ _ h => h) (Or.inl ⟨by rfl, ?_⟩) ?_ ?_
             rotate_left
             ·intro w'
              go_simp
              with_reducible rfl
             rotate_left
             ·exact mP
             refine pure_ (i := 4) (N := some 21) (v := ?_) (a' := ?_) (bA 8 31) rfl rfl (any_of HT_.out (by kernel_rfl)) (fun _ _ _ h => h) (Or.inl ⟨by rfl, ?_⟩) ?_ ?_
             rotate_left
             ·intro w'
              go_simp
              with_reducible rfl
             rotate_left
             ·exact mP
             refine pure_ (i := 5) (N := some 22) (v := ?_) (a' := ?_) (bA 8 63) rfl rfl (any_of HT_.out (by kernel_rfl)) (fun _ _ _ h => h) (Or.inl ⟨by rfl, ?_⟩) ?_ ?_
             rotate_left
             ·intro w'
              go_simp
              with_reducible rfl
             rotate_left
             ·exact mP
             refine one_ (i := 6) (N := some 23) (bA 8 127) rfl rfl (one_of HT_.out (by kernel_rfl)) (by decide) (fun K hK => ?_)
             refine goes_ Tryz.func42 (by kernel_rfl) rfl #[.int .i64 x5_2] (by rfl) rfl rfl mS ?_
             with_reducible refine (foghornref12_sign.calls x5_2 t507 _ A8.out).mono ?_
             rintro e w' ⟨rfl, ⟨nd, rfl⟩⟩
             refine ⟨_, rfl, ?_⟩
             refine hK.out _ _ trivial (fun hHeld => ?_)
             clear hK K
             refine norm_ (a' := ?_) ?_ ?_
             rotate_left
             ·show Act.put _ (some 23) _ = _
              simp only [Act.put, List.setIfInBounds_toArray, List.set_cons_zero, List.set_cons_succ, i64_w, i32_w]
              rfl
             refine pure_ (i := 7) (N := some 24) (v := ?_) (a' := ?_) (bA 8 255) rfl rfl (any_of HT_.out (by kernel_rfl)) (fun _ _ _ h => h) (Or.inl ⟨by rfl, ?_⟩) ?_ ?_
             rotate_left
             ·intro w'
              go_simp
              with_reducible rfl
             rotate_left
             ·exact mP
             refine done_ (done_of HT_.out (by kernel_rfl)) ?_
             try go_wp2
             (try (rw [drewN_self w16]; generalize hq_ : World.drewN w16 _ = w16; have n0_ : Aside0 (w16.heap[gb506]? = some (.cells #[.int .i64 x507000_2, .string x507001_2, .string x507002_2] 32 (0, 0))) := ⟨by rw [← hq_]; exact (mK BK506.out)⟩; have n1_ : Aside0 (Below w.heap.size w w16) := ⟨by rw [← hq_]; exact (mD1 GE506.out)⟩; clear BK506 HB hq_; have BK506 := n0_; have HB := n1_; clear n0_ n1_))
             have n0_ := aA (blk_drew BK506.out)
             have n1_ := aA (below_drew1 HB.out)
             clear BK506
             clear HB
             have BK506 := n0_
             have HB := n1_
             clear n0_ n1_
             refine start_ (n := 11) (S := fun w' => True) (ds := []) (bA 11 0) (by kernel_rfl) rfl rfl trivial (fun hHeld => ?_); refine with_tabW foghornref12_Asked.tab8 foghornref12_Asked.bits8 (fun HT_ HW_ => ?_)
             generalize w16.drew = w17 at BK506 HB hHeld ⊢
             refine pure_ (i := 0) (N := some 25) (v := ?_) (a' := ?_) (bA 11 1) rfl rfl (any_of HT_.out (by kernel_rfl)) (fun _ _ _ h => h) (Or.inl ⟨by rfl, ?_⟩) ?_ ?_
             rotate_left
             ·intro w'
              go_simp
              with_reducible rfl
             rotate_left
             ·exact mP
             refine pure_ (i := 1) (N := some 26) (v := ?_) (a' := ?_) (bA 11 3) rfl rfl (any_of HT_.out (by kernel_rfl)) (fun _ _ _ h => h) (Or.inl ⟨by rfl, ?_⟩) ?_ ?_
             rotate_left
             ·intro w'
              go_simp
              with_reducible rfl
             rotate_left
             ·exact mP
             refine pure_ (i := 2) (N := some 27) (v := ?_) (a' := ?_) (bA 11 7) rfl rfl (any_of HT_.out (by kernel_rfl)) (fun _ _ _ h => h) (Or.inl ⟨by rfl, ?_⟩) ?_ ?_
             rotate_left
             ·intro w'
              go_simp
              with_reducible rfl
             rotate_left
             ·exact mP
             refine pure_ (i := 3) (N := some 28) (v := ?_) (a' := ?_) (bA 11 15) rfl rfl (any_of HT_.out (by kernel_rfl)) (fun _ _ _ h => h) (Or.inl ⟨by rfl, ?_⟩) ?_ ?_
             rotate_left
             ·intro w'
              go_simp
              with_reducible rfl
             rotate_left
             ·exact mP
             refine pure_ (i := 4) (N := some 29) (v := ?_) (a' := ?_) (bA 11 31) rfl rfl (any_of HT_.out (by kernel_rfl)) (fun _ _ _ h => h) (Or.inl ⟨by rfl, ?_⟩) ?_ ?_
             rotate_left
             ·intro w'
              go_simp
              with_reducible rfl
             rotate_left
             ·exact mP
             refine pure_ (i := 5) (N := some 30) (v := ?_) (a' := ?_) (bA 11 63) rfl rfl (any_of HT_.out (by kernel_rfl)) (fun _ _ _ h => h) (Or.inl ⟨by rfl, ?_⟩) ?_ ?_
             rotate_left
             ·intro w'
              go_simp
              with_reducible rfl
             rotate_left
             ·exact mP
             refine pure_ (i := 6) (N := some 31) (v := ?_) (a' := ?_) (bA 11 127) rfl rfl (any_of HT_.out (by kernel_rfl)) (fun _ _ _ h => h) (Or.inl ⟨by rfl, ?_⟩) ?_ ?_
             rotate_left
             ·intro w'
              go_simp
              with_reducible rfl
             rotate_left
             ·exact mP
             refine pure_ (i := 7) (N := some 32) (v := ?_) (a' := ?_) (bA 11 255) rfl rfl (any_of HT_.out (by kernel_rfl)) (fun _ _ _ h => h) (Or.inl ⟨by rfl, ?_⟩) ?_ ?_
             rotate_left
             ·intro w'
              go_simp
              with_reducible rfl
             rotate_left
             ·exact mP
             refine pure_ (i := 8) (N := some 33) (v := ?_) (a' := ?_) (bA 11 511) rfl rfl (any_of HT_.out (by kernel_rfl)) (fun _ _ _ h => h) (Or.inl ⟨by rfl, ?_⟩) ?_ ?_
             rotate_left
             ·intro w'
              go_simp
              with_reducible rfl
             rotate_left
             ·exact mP
             refine one_ (i := 9) (N := some 6) (bA 11 1023) rfl rfl (one_of HT_.out (by kernel_rfl)) (by decide) (fun K hK => ?_)
             refine box_step ?hg (N := 6) ?hd (cs := #[.int .i64 0, .string (⟨#[]⟩ : ByteArray), .string (⟨#[]⟩ : ByteArray)]) (t := 32) ?hr ?_; (case hd => rfl); (case hg => rfl); (case hr => first | (go_simp; done) | (go_simp; rfl))
             intro gb508 hg w18 hbox hb
             have n0_ := aA (bB BK506.out hb)
             have n1_ := aA (below_step (mD1 GE506.out) hb)
             have n2_ := aA (hbox)
             have n3_ := aA ((bZ hg (mD1 GE506.out)))
             have n4_ := aA ((bZ hg (mD1 GE506.out)))
             have n5_ := aA ((bL hg BK506.out))
             have n6_ := aA ((bG hg BK506.out))
             clear BK506
             clear HB
             have BK506 := n0_
             have HB := n1_
             have BK508 := n2_
             have GW508 := n3_
             have GE508 := n4_
             have NB506_508 := n5_
             have NB508_506 := n6_
             clear n0_ n1_ n2_ n3_ n4_ n5_ n6_
             clear hb hbox hg
             refine hK.out _ _ trivial (fun hHeld => ?_)
             clear hK K
             refine norm_ (a' := ?_) ?_ ?_
             rotate_left
             ·show Act.put _ (some 6) _ = _
              simp only [Act.put, List.setIfInBounds_toArray, List.set_cons_zero, List.set_cons_succ, i64_w, i32_w]
              rfl
             refine one_ (i := 10) (N := none) (bA 11 2047) rfl rfl (one_of HT_.out (by kernel_rfl)) (by decide) (fun K hK => ?_)
             have hs19 : w18.cell? ⟨gb508, 0, none⟩ = some (.int .i64 0) := (blk_cell BK508.out 0).trans rfl
             have hfs19 := blk_frozen BK508.out 0
             have hns19_0 := NB506_508.out
             have hms19_0 := NB508_506.out
             have hs20 : w18.cell? ⟨gb508, 1, none⟩ = some (.string (⟨#[]⟩ : ByteArray)) := (blk_cell BK508.out 1).trans rfl
             have hfs20 := blk_frozen BK508.out 1
             have hns20_0 := NB506_508.out
             have hms20_0 := NB508_506.out
             have hs21 : w18.cell? ⟨gb508, 2, none⟩ = some (.string (⟨#[]⟩ : ByteArray)) := (blk_cell BK508.out 2).trans rfl
             have hfs21 := blk_frozen BK508.out 2
             have hns21_0 := NB506_508.out
             have hms21_0 := NB508_506.out
             refine skip_ (w1 := ?_) (by rfl) rfl ?_ ?_
             rotate_left
             ·go_simp
              rfl
             refine hK.out _ _ trivial (fun hHeld => ?_)
             clear hK K
             refine done_ (done_of HT_.out (by kernel_rfl)) ?_
             try go_wp2
             have n0_ : Aside0 ((((w18.setCell ⟨gb508, 0, none⟩ (.int .i64 x5_2)).setCell ⟨gb508, 1, none⟩ (.string (a0.extract 0 (x4_1 : Int).toNat))).setCell ⟨gb508, 2, none⟩ (.string (a0.extract ((ji12) : Int).toNat a0.size))).heap[gb506]? = some (.cells #[.int .i64 x507000_2, .string x507001_2, .string x507002_2] 32 (0, 0))) := ⟨by (with_reducible repeat (first | refine blk_drewN ?_ _ | refine blk_drew ?_ | refine blk_alloc ?_ _)); refine blk_far ?_ NB506_508.out _; (with_reducible repeat (first | refine blk_drewN ?_ _ | refine blk_drew ?_ | refine blk_alloc ?_ _)); refine blk_far ?_ NB506_508.out _; (with_reducible repeat (first | refine blk_drewN ?_ _ | refine blk_drew ?_ | refine blk_alloc ?_ _)); refine blk_far ?_ NB506_508.out _; (with_reducible repeat (first | refine blk_drewN ?_ _ | refine blk_drew ?_ | refine blk_alloc ?_ _)); exact BK506.out⟩
             have n1_ : Aside0 ((((w18.setCell ⟨gb508, 0, none⟩ (.int .i64 x5_2)).setCell ⟨gb508, 1, none⟩ (.string (a0.extract 0 (x4_1 : Int).toNat))).setCell ⟨gb508, 2, none⟩ (.string (a0.extract ((ji12) : Int).toNat a0.size))).heap[gb508]? = some (.cells #[.int .i64 x5_2, .string (a0.extract 0 (x4_1 : Int).toNat), .string (a0.extract ((ji12) : Int).toNat a0.size)] 32 (0, 0))) := ⟨by (with_reducible repeat (first | refine blk_drewN ?_ _ | refine blk_drew ?_ | refine blk_alloc ?_ _)); refine blk_put (cs := #[.int .i64 x5_2, .string (a0.extract 0 (x4_1 : Int).toNat), .string (⟨#[]⟩ : ByteArray)]) ?_ 2 _ rfl; (with_reducible repeat (first | refine blk_drewN ?_ _ | refine blk_drew ?_ | refine blk_alloc ?_ _)); refine blk_put (cs := #[.int .i64 x5_2, .string (⟨#[]⟩ : ByteArray), .string (⟨#[]⟩ : ByteArray)]) ?_ 1 _ rfl; (with_reducible repeat (first | refine blk_drewN ?_ _ | refine blk_drew ?_ | refine blk_alloc ?_ _)); refine blk_put (cs := #[.int .i64 0, .string (⟨#[]⟩ : ByteArray), .string (⟨#[]⟩ : ByteArray)]) ?_ 0 _ rfl; (with_reducible repeat (first | refine blk_drewN ?_ _ | refine blk_drew ?_ | refine blk_alloc ?_ _)); exact BK508.out⟩
             have n2_ : Aside0 (Below w.heap.size w (((w18.setCell ⟨gb508, 0, none⟩ (.int .i64 x5_2)).setCell ⟨gb508, 1, none⟩ (.string (a0.extract 0 (x4_1 : Int).toNat))).setCell ⟨gb508, 2, none⟩ (.string (a0.extract ((ji12) : Int).toNat a0.size)))) := ⟨by repeat (first | (with_reducible first | exact HB.out | apply below_alloc | apply pw_below_drewN | apply below_drew1 | refine below_set ?_ GE506.out | refine below_set ?_ GE508.out) | exact HB.out)⟩
             (try clear BK506)
             (try clear BK508)
             (try clear HB)
             generalize (((w18.setCell ⟨gb508, 0, none⟩ (.int .i64 x5_2)).setCell ⟨gb508, 1, none⟩ (.string (a0.extract 0 (x4_1 : Int).toNat))).setCell ⟨gb508, 2, none⟩ (.string (a0.extract ((ji12) : Int).toNat a0.size))) = w22 at n0_ n1_ n2_ ⊢
             have BK506 := n0_
             have BK508 := n1_
             have HB := n2_
             clear n0_ n1_ n2_
             have n0_ := aA (blk_drew BK506.out)
             have n1_ := aA (blk_drew BK508.out)
             have n2_ := aA (below_drew1 HB.out)
             clear BK506
             clear BK508
             clear HB
             have BK506 := n0_
             have BK508 := n1_
             have HB := n2_
             clear n0_ n1_ n2_
             refine start_ (n := 5) (S := fun w' => w'.cell? ⟨gb508, 0, none⟩ = some (.int .i64 x5_2) ∧ w'.cell? ⟨gb508, 1, none⟩ = some (.string (a0.extract 0 (x4_1 : Int).toNat)) ∧ w'.cell? ⟨gb508, 2, none⟩ = some (.string (a0.extract ((ji12) : Int).toNat a0.size))) (ds := []) #[false, false, false, false, false] (by kernel_rfl) rfl rfl (bC3 BK508.out) (fun hHeld => ?_)
             generalize w22.drew = w23 at BK506 BK508 HB hHeld ⊢
             refine take_ (i := 0) (N := some 34) (v := ?_) (a' := ?_) #[true, false, false, false, false] rfl rfl (by kernel_rfl) (fun _ _ _ h => h) (Or.inl ⟨by rfl, ?_⟩) hHeld ?_ ?_
             rotate_left
             ·rintro w' ⟨s0, s1, s2⟩
              go_simp
              with_reducible rfl
             rotate_left
             ·exact mP
             refine take_ (i := 1) (N := some 35) (v := ?_) (a' := ?_) #[true, true, false, false, false] rfl rfl (by kernel_rfl) (fun _ _ _ h => h) (Or.inl ⟨by rfl, ?_⟩) hHeld ?_ ?_
             rotate_left
             ·rintro w' ⟨s0, s1, s2⟩
              go_simp
              with_reducible rfl
             rotate_left
             ·exact mP
             refine one_ (i := 2) (N := some 36) #[true, true, true, false, false] rfl rfl (by kernel_rfl) (by decide) (fun K hK => ?_)
             refine goes_ Tryz.func22 (by kernel_rfl) rfl #[.agg #[.int .i64 x5_2, .string (a0.extract 0 (x4_1 : Int).toNat), .string (a0.extract ((ji12) : Int).toNat a0.size)]] (by rfl) rfl rfl (by (try simp only [List.map_toArray, List.map_cons, List.map_nil]); first | done | (simp only [hji12]; rfl) | rfl | (simp only [List.length_drop, List.length_take]; rfl)) ?_
             with_reducible refine (foghornref10_Matcher.calls x5_2 (a0.extract 0 (x4_1 : Int).toNat) (a0.extract ((ji12) : Int).toNat a0.size) t509 _ A15.out).mono ?_
             rintro e w24 ⟨rfl, hb⟩
             refine ⟨_, rfl, ?_⟩
             have n0_ := aA (bB BK506.out hb)
             have n1_ := aA (bB BK508.out hb)
             have n2_ := aA (below_step (mD2 GE506.out GE508.out) hb)
             clear BK506
             clear BK508
             clear HB
             have BK506 := n0_
             have BK508 := n1_
             have HB := n2_
             clear n0_ n1_ n2_
             (try clear hb)
             (try clear hb2)
             (try clear hk)
             (try clear hi)
             refine hK.out _ _ (bC3 BK508.out) (fun hHeld => ?_)
             clear hK K
             refine norm_ (a' := ?_) ?_ ?_
             rotate_left
             ·show Act.put _ (some 36) _ = _
              simp only [Act.put, List.setIfInBounds_toArray, List.set_cons_zero, List.set_cons_succ, i64_w, i32_w]
              rfl
             refine one_ (i := 3) (N := none) #[true, true, true, true, false] rfl rfl (by kernel_rfl) (by decide) (fun K hK => ?_)
             have hs25 : w24.cell? ⟨gb506, 0, none⟩ = some (.int .i64 x507000_2) := (blk_cell BK506.out 0).trans rfl
             have hfs25 := blk_frozen BK506.out 0
             have hns25_1 := NB508_506.out
             have hms25_1 := NB506_508.out
             have hs26 : w24.cell? ⟨gb506, 1, none⟩ = some (.string x507001_2) := (blk_cell BK506.out 1).trans rfl
             have hfs26 := blk_frozen BK506.out 1
             have hns26_1 := NB508_506.out
             have hms26_1 := NB506_508.out
             have hs27 : w24.cell? ⟨gb506, 2, none⟩ = some (.string x507002_2) := (blk_cell BK506.out 2).trans rfl
             have hfs27 := blk_frozen BK506.out 2
             have hns27_1 := NB508_506.out
             have hms27_1 := NB506_508.out
             refine skip_ (w1 := ?_) (by rfl) rfl ?_ ?_
             rotate_left
             ·go_simp
              rfl
             refine hK.out _ _ ⟨((cell_far (p := ⟨gb506, _, none⟩) NB508_506.out _).trans (((cell_far (p := ⟨gb506, _, none⟩) NB508_506.out _).trans (((cell_far (p := ⟨gb506, _, none⟩) NB508_506.out _).trans (hHeld.1)))))), ((cell_far (p := ⟨gb506, _, none⟩) NB508_506.out _).trans (((cell_far (p := ⟨gb506, _, none⟩) NB508_506.out _).trans (((cell_far (p := ⟨gb506, _, none⟩) NB508_506.out _).trans (hHeld.2.1)))))), ((cell_far (p := ⟨gb506, _, none⟩) NB508_506.out _).trans (((cell_far (p := ⟨gb506, _, none⟩) NB508_506.out _).trans (((cell_far (p := ⟨gb506, _, none⟩) NB508_506.out _).trans (hHeld.2.2))))))⟩ (fun hHeld => ?_)
             clear hK K
             refine pure_ (i := 4) (N := some 3) (v := ?_) (a' := ?_) #[true, true, true, true, true] rfl rfl (by kernel_rfl) (fun _ _ _ h => h) (Or.inl ⟨by rfl, ?_⟩) ?_ ?_
             rotate_left
             ·intro w'
              go_simp
              with_reducible rfl
             rotate_left
             ·exact mP
             refine done_ (by kernel_rfl) ?_
             try go_wp2
             refine bodyPost_ret (results_ct rfl _ _ gb506 32 #[.int .i64 x5_2, .string (a0.extract 0 (x4_1 : Int).toNat), .string (a0.extract ((ji12) : Int).toNat a0.size)] (0, 0) _ rfl (by (with_reducible repeat (first | refine blk_drewN ?_ _ | refine blk_drew ?_ | refine blk_alloc ?_ _)); have h_ := BK506.out; exact pK 2 (pK 1 (pK 0 (h_)))) Tryz.underlying32 rfl (by kernel_rfl)) rfl ?_
             exact ⟨by first | rfl | (simp [errW_none, errW_some] <;> rfl) | (simp only [← hji12]; first | rfl | (simp [errW_none, errW_some] <;> rfl)) | (simp [*, errW_none, errW_some] <;> rfl), by repeat (first | (with_reducible first | exact HB.out | apply below_alloc | apply pw_below_drewN | apply below_drew1 | refine below_set ?_ GE506.out | refine below_set ?_ GE508.out) | exact HB.out)⟩
            ·rw [if_neg c13] at H
             exact absurd H (by simp)
           ·rw [if_neg c11] at H
            exact absurd H (by simp)
          ·rw [if_neg c9] at H
           have c9b0 : ((a0.extract (x4_1 : Int).toNat ((wrap64 (x4_1 + 1)) : Int).toNat).toList == t507.toList) = false := beq_eq_false_iff_ne.mpr c9
           have c9b1 : ((a0.extract (x4_1 : Int).toNat ((wrap64 (x4_1 + 1)) : Int).toNat).toList != t507.toList) = true := bne_iff_ne.mpr c9
           have H' := aA H
           clear H
           try go_wp2
           have n0_ := aA (blk_drew BK506.out)
           have n1_ := aA (below_drew1 HB.out)
           clear BK506
           clear HB
           have BK506 := n0_
           have HB := n1_
           clear n0_ n1_
           refine start_ (n := 8) (S := fun w' => True) (ds := []) (bA 8 0) (by kernel_rfl) rfl rfl trivial (fun hHeld => ?_); refine with_tabW foghornref12_Asked.tab7 foghornref12_Asked.bits7 (fun HT_ HW_ => ?_)
           generalize wr.drew = w28 at BK506 HB hHeld ⊢
           refine pure_ (i := 0) (N := some 17) (v := ?_) (a' := ?_) (bA 8 1) rfl rfl (any_of HT_.out (by kernel_rfl)) (fun _ _ _ h => h) (Or.inl ⟨by rfl, ?_⟩) ?_ ?_
           rotate_left
           ·intro w'
            go_simp
            with_reducible rfl
           rotate_left
           ·exact mP
           refine pure_ (i := 1) (N := some 18) (v := ?_) (a' := ?_) (bA 8 3) rfl rfl (any_of HT_.out (by kernel_rfl)) (fun _ _ _ h => h) (Or.inl ⟨by rfl, ?_⟩) ?_ ?_
           rotate_left
           ·intro w'
            go_simp
            with_reducible rfl
           rotate_left
           ·exact mP
           refine pure_ (i := 2) (N := some 19) (v := ?_) (a' := ?_) (bA 8 7) rfl rfl (any_of HT_.out (by kernel_rfl)) (fun _ _ _ h => h) (Or.inl ⟨by rfl, ?_⟩) ?_ ?_
           rotate_left
           ·intro w'
            go_simp
            with_reducible rfl
           rotate_left
           ·exact mP
           refine pure_ (i := 3) (N := some 20) (v := ?_) (a' := ?_) (bA 8 15) rfl rfl (any_of HT_.out (by kernel_rfl)) (fun _ _ _ h => h) (Or.inl ⟨by rfl, ?_⟩) ?_ ?_
           rotate_left
           ·intro w'
            go_simp
            with_reducible rfl
           rotate_left
           ·exact mP
           refine pure_ (i := 4) (N := some 21) (v := ?_) (a' := ?_) (bA 8 31) rfl rfl (any_of HT_.out (by kernel_rfl)) (fun _ _ _ h => h) (Or.inl ⟨by rfl, ?_⟩) ?_ ?_
           rotate_left
           ·intro w'
            go_simp
            with_reducible rfl
           rotate_left
           ·exact mP
           refine pure_ (i := 5) (N := some 22) (v := ?_) (a' := ?_) (bA 8 63) rfl rfl (any_of HT_.out (by kernel_rfl)) (fun _ _ _ h => h) (Or.inl ⟨by rfl, ?_⟩) ?_ ?_
           rotate_left
           ·intro w'
            go_simp
            with_reducible rfl
           rotate_left
           ·exact mP
           refine one_ (i := 6) (N := some 23) (bA 8 127) rfl rfl (one_of HT_.out (by kernel_rfl)) (by decide) (fun K hK => ?_)
           refine goes_ Tryz.func42 (by kernel_rfl) rfl #[.int .i64 x5_2] (by rfl) rfl rfl mS ?_
           with_reducible refine (foghornref12_sign.calls x5_2 t507 _ A8.out).mono ?_
           rintro e w' ⟨rfl, ⟨nd, rfl⟩⟩
           refine ⟨_, rfl, ?_⟩
           refine hK.out _ _ trivial (fun hHeld => ?_)
           clear hK K
           refine norm_ (a' := ?_) ?_ ?_
           rotate_left
           ·show Act.put _ (some 23) _ = _
            simp only [Act.put, List.setIfInBounds_toArray, List.set_cons_zero, List.set_cons_succ, i64_w, i32_w]
            rfl
           refine pure_ (i := 7) (N := some 24) (v := ?_) (a' := ?_) (bA 8 255) rfl rfl (any_of HT_.out (by kernel_rfl)) (fun _ _ _ h => h) (Or.inl ⟨by rfl, ?_⟩) ?_ ?_
           rotate_left
           ·intro w'
            go_simp
            with_reducible rfl
           rotate_left
           ·exact mP
           refine done_ (done_of HT_.out (by kernel_rfl)) ?_
           try go_wp2
           go_roundg k2
           case measure => have := HK1.out; have := HK2.out; omega
           case rel => exact ⟨(wrap64 (x5_2 + 1)), (x507000_2), (x507001_2), (x507002_2), (by first | rfl | (simp; done) | (simp [*]; done)), H', ⟨by have := HK1.out; have := HK2.out; omega⟩, ⟨by (with_reducible repeat (first | refine blk_drewN ?_ _ | refine blk_drew ?_ | refine blk_alloc ?_ _)); exact BK506.out⟩, ⟨by repeat (first | (with_reducible first | exact HB.out | apply below_alloc | apply pw_below_drewN | apply below_drew1 | refine below_set ?_ GE506.out) | exact HB.out)⟩⟩
         ·rw [if_neg c7] at H
          exact absurd H (by simp)
        ·rw [if_neg c6] at H
         exact absurd H (by simp)
       ·rw [if_neg c5] at H
        exact absurd H (by simp)
      ·rw [if_neg c4] at H
       have c4b0 : decide (x5_2 < 4) = false := decide_eq_false c4
       clear c4
       have H' := aA H
       clear H
       go_wp2
       go_roundg k2
       case measure => have := HK1.out; have := HK2.out; omega
       case rel => exact ⟨(wrap64 (x4_1 + 1)), (x507000_2), (x507001_2), (x507002_2), (by first | rfl | (simp; done) | (simp [*]; done)), H', ⟨by have := HK1.out; have := HK2.out; omega⟩, ⟨by (with_reducible repeat (first | refine blk_drewN ?_ _ | refine blk_drew ?_ | refine blk_alloc ?_ _)); exact BK506.out⟩, ⟨by repeat (first | (with_reducible first | exact HB.out | apply below_alloc | apply pw_below_drewN | apply below_drew1 | refine below_set ?_ GE506.out) | exact HB.out)⟩⟩
   ·rw [if_neg c3] at H
    have c3b0 : decide (x4_1 < (a0.size : Int)) = false := decide_eq_false c3
    clear c3
    simp only [Option.some.injEq, Prod.mk.injEq] at H
    obtain ⟨rfl, rfl, rfl, rfl⟩ := H
    obtain ⟨hcz29_0, hcz29_1, hcz29_2⟩ := bC3 BK506.out
    obtain ⟨hfz29_0, hfz29_1, hfz29_2⟩ := bF3 BK506.out
    go_wp2
    refine bodyPost_ret (results_ct rfl _ _ gb506 32 #[.int .i64 0, .string (⟨#[]⟩ : ByteArray), .string (⟨#[]⟩ : ByteArray)] (0, 0) _ rfl (by (with_reducible repeat (first | refine blk_drewN ?_ _ | refine blk_drew ?_ | refine blk_alloc ?_ _)); have h_ := BK506.out; exact pK 2 (pK 1 (pK 0 (h_)))) Tryz.underlying32 rfl (by kernel_rfl)) rfl ?_
    exact ⟨by first | rfl | (simp [errW_none, errW_some] <;> rfl) | (simp [*, errW_none, errW_some] <;> rfl), by repeat (first | (with_reducible first | exact HB.out | apply below_alloc | apply pw_below_drewN | apply below_drew1 | refine below_set ?_ GE506.out) | exact HB.out)⟩
end Go.Proofs.YtjfknmlchdifjaaGreatDoorQ.P
namespace Go.Proofs.YtjfknmlchdifjaaGreatDoorQ.P
open Go.RowKit Go.Proofs.YtjfknmlchdifjaaGreatDoorW.PrintWords Go.Proofs.YtjfknmlchdifjaaGreatDoorW.PrintLast Go.Proofs.YtjfknmlchdifjaaGreatDoorW.PrintMore Go.Proofs.YtjfknmlchdifjaaGreatDoor
theorem name_l (s : ByteArray) (hs : s.size ≤ 9223372036854775807) (d : Nat) : ∀ (k i : Nat), i + d = s.data.toList.length → d < k → (s.data.toList.take i).all azB = true → foghornref10_Name.l0 k s (i : Int) = some (nameB s) := by
  have hl := len_data s
  induction d with
  | zero =>
    intro k i hi hk ha
    obtain ⟨k, rfl⟩ : ∃ q, k = q + 1 := ⟨k - 1, by omega⟩
    rw [List.take_of_length_le (by omega)] at ha
    rw [foghornref10_Name.l0, if_neg (by omega)]
    unfold nameB
    rw [ha, Bool.true_and]
    split
    · rw [decide_eq_true (p := 1 ≤ s.size) (by omega), Bool.true_and]
      congr 1
      exact decide_eq_decide.2 (by omega)
    · rw [decide_eq_false (p := 1 ≤ s.size) (by omega), Bool.false_and]
  | succ d ih =>
    intro k i hi hk ha
    obtain ⟨k, rfl⟩ : ∃ q, k = q + 1 := ⟨k - 1, by omega⟩
    have hlt : i < s.data.toList.length := by omega
    rw [foghornref10_Name.l0, if_pos (by omega), if_pos (by omega), bt_list hlt]
    have bad : azB (s.data.toList[i]) = false → nameB s = false := by
      intro h
      unfold nameB
      rw [all_no hlt h]
      rfl
    split
    · rw [bad (az_no (by omega))]
    · split
      · rw [bad (az_no (by omega))]
      · rw [w64s (by omega)]
        exact ih k (i + 1) (by omega) (by omega) (all_yes hlt ha (az_yes (by omega)))
theorem name_fb {s : ByteArray} (hs : s.size ≤ 9223372036854775807) {k : Nat} (hk : s.size < k) : foghornref10_Name.f k s = some (nameB s) :=
  name_l s hs s.data.toList.length k 0 (by omega) (by rw [len_data]; omega) (by simp)
end Go.Proofs.YtjfknmlchdifjaaGreatDoorQ.P
namespace Go.Proofs.YtjfknmlchdifjaaGreatDoorQ.P
open Go.RowKit Go.Proofs.YtjfknmlchdifjaaGreatDoorW.PrintWords Go.Proofs.YtjfknmlchdifjaaGreatDoorW.PrintLast Go.Proofs.YtjfknmlchdifjaaGreatDoorW.PrintMore Go.Proofs.YtjfknmlchdifjaaGreatDoor
theorem words_l (s : ByteArray) (hs : s.size ≤ 100000) (d : Nat) : ∀ (k i fr : Nat) (acc : List ByteArray) (u : List UInt8), i + d = s.data.toList.length → d < k → acc.length ≤ i → fr + u.length = i → s.data.toList.drop fr = u ++ s.data.toList.drop i → (32 : UInt8) ∉ u →
    foghornref12_Words.l0 k s acc (fr : Int) (i : Int) = some (acc ++ (splitL 32 (s.data.toList.drop fr)).map tx) := by
  have hl := len_data s
  induction d with
  | zero =>
    intro k i fr acc u hi hk ha hf hu hn
    obtain ⟨k, rfl⟩ : ∃ q, k = q + 1 := ⟨k - 1, by omega⟩
    have hz : s.data.toList.drop i = [] := drop_end (by omega)
    rw [hz, List.append_nil] at hu
    rw [foghornref12_Words.l0, if_neg (by omega), if_pos (by omega), if_pos (by omega), if_pos (by omega), Int.toNat_natCast, ex_drop, hu, splitL_one hn]
    rfl
  | succ d ih =>
    intro k i fr acc u hi hk ha hf hu hn
    obtain ⟨k, rfl⟩ : ∃ q, k = q + 1 := ⟨k - 1, by omega⟩
    have hlt : i < s.data.toList.length := by omega
    rw [foghornref12_Words.l0, if_pos (by omega), if_pos (by omega), bt_list hlt]
    have hd := drop_cons hlt
    by_cases hc : s.data.toList[i] = 32
    · rw [if_pos (by rw [hc]; rfl), if_pos (by omega), if_pos (by omega), if_pos (by omega), if_pos (by omega), Int.toNat_natCast, Int.toNat_natCast, w64s (by omega)]
      rw [ih k (i + 1) (i + 1) _ [] (by omega) (by omega) (by simp; omega) (by simp) (by simp) (by simp)]
      have e1 : s.extract fr i = tx u := by
        rw [ex_mid, hu, ← hf, Nat.add_sub_cancel_left, List.take_left]
      rw [e1, hu, hd, hc, splitL_app _ hn]
      simp
    · rw [if_neg (by intro e; apply hc; apply UInt8.toNat_inj.1; have : (s.data.toList[i]).toNat = 32 := by omega
                     rw [this]; rfl), w64s (by omega)]
      exact ih k (i + 1) fr acc (u ++ [s.data.toList[i]]) (by omega) (by omega) (by omega) (by simp; omega) (by rw [hu, hd]; simp) (by simp; exact ⟨hn, fun e => hc e.symm⟩)
theorem words_f {s : ByteArray} (hs : s.size ≤ 100000) {k : Nat} (hk : s.size < k) : foghornref12_Words.f k s = some (wordsT 32 s) := by
  have := words_l s hs s.data.toList.length k 0 0 [] [] (by omega) (by rw [len_data]; omega) (by simp) rfl (by simp) (by simp)
  unfold foghornref12_Words.f
  rw [n0, this]
  simp [wordsT]
def askR : Option (List UInt8 × UInt8 × List UInt8) → Int × ByteArray × ByteArray × Bool
  | none => (0, ⟨#[]⟩, ⟨#[]⟩, false)
  | some r => (kindOf r.2.1, tx r.1, tx r.2.2, matB (askM r))
theorem sign_f (j : Nat) (h : j < 4) : foghornref12_sign.f (j : Int) = some (tx [signs.getD j 0]) := by
  have : j = 0 ∨ j = 1 ∨ j = 2 ∨ j = 3 := by omega
  rcases this with rfl | rfl | rfl | rfl
  all_goals
    unfold foghornref12_sign.f
    rw [w64s (by omega), if_pos (by omega), if_pos (by omega), if_pos (by omega), Int.toNat_natCast, Int.toNat_natCast, ex_mid]
    rfl
theorem ask_l1 (s : ByteArray) (hs : s.size ≤ 100000) (i : Nat) (hlt : i < s.data.toList.length) (e : Nat) : ∀ (k j : Nat), j + e = 4 → e < k → (∀ t, t < j → s.data.toList[i] ≠ signs.getD t 0) →
    foghornref12_Asked.l1 k s (i : Int) (j : Int) = if signB (s.data.toList[i]) = true then some (kindOf (s.data.toList[i]), tx (s.data.toList.take i), tx (s.data.toList.drop (i + 1)), matB (askM (s.data.toList.take i, s.data.toList[i], s.data.toList.drop (i + 1)))) else foghornref12_Asked.l0 (k - e - 1) s ((i + 1 : Nat) : Int) := by
  have hl := len_data s
  generalize hc : s.data.toList[i] = c
  induction e with
  | zero =>
    intro k j hj hk ha
    obtain ⟨k, rfl⟩ : ∃ q, k = q + 1 := ⟨k - 1, by omega⟩
    have hn : signB c = false := by
      rw [← Bool.not_eq_true]
      intro h
      simp only [signB, signs, List.contains_cons, List.contains_nil, Bool.or_false, Bool.or_eq_true, beq_iff_eq] at h
      have h0 := ha 0 (by omega)
      have h1 := ha 1 (by omega)
      have h2 := ha 2 (by omega)
      have h3 := ha 3 (by omega)
      simp [signs] at h0 h1 h2 h3
      rcases h with h | h | h | h
      · exact h0 h
      · exact h1 h
      · exact h2 h
      · exact h3 h
    rw [hn, foghornref12_Asked.l1, if_neg (by omega), w64s (by omega)]
    rfl
  | succ e ih =>
    intro k j hj hk ha
    obtain ⟨k, rfl⟩ : ∃ q, k = q + 1 := ⟨k - 1, by omega⟩
    rw [foghornref12_Asked.l1, if_pos (by omega), if_pos (by omega), w64s (by omega), if_pos (by omega), if_pos (by omega), sign_f j (by omega), Option.bind_some, Int.toNat_natCast, Int.toNat_natCast, ex_mid, drop_cons hlt, hc, Nat.add_sub_cancel_left]
    simp only [List.take_succ_cons, List.take_zero, tx_toList]
    by_cases hh : c = signs.getD j 0
    · have hs' : signB c = true := by
        have : j = 0 ∨ j = 1 ∨ j = 2 ∨ j = 3 := by omega
        rcases this with rfl | rfl | rfl | rfl <;> (subst hh; decide)
      have hk' : kindOf c = (j : Int) := by
        have : j = 0 ∨ j = 1 ∨ j = 2 ∨ j = 3 := by omega
        rcases this with rfl | rfl | rfl | rfl <;> (subst hh; decide)
      rw [if_pos (by rw [hh]), if_pos (by omega), if_pos (by omega), ex_take, ex_drop, hs', if_pos rfl, hk']
      unfold foghornref10_Matcher.f
      rw [if_pos (matOkB_of (by rw [tx_size, List.length_take]; omega) (by rw [tx_size, List.length_drop]; omega))]
      simp only [Option.bind_some, askM, hk']
    · have hg : signs[j]'(by show j < 4; omega) = signs.getD j 0 := by
        have : j = 0 ∨ j = 1 ∨ j = 2 ∨ j = 3 := by omega
        rcases this with rfl | rfl | rfl | rfl <;> rfl
      rw [if_neg (by intro h; injection h with h; exact hh h), w64s (by omega), ih k (j + 1) (by omega) (by omega) (fun t ht => by
        rcases Nat.lt_succ_iff_lt_or_eq.1 ht with h | rfl
        · exact ha t h
        · exact hh)]
      rw [show k + 1 - (e + 1) - 1 = k - e - 1 by omega]
theorem ask_l0 (s : ByteArray) (hs : s.size ≤ 100000) (d : Nat) : ∀ (k i : Nat), i + d = s.data.toList.length → 6 * d < k → (∀ c ∈ s.data.toList.take i, signB c = false) → foghornref12_Asked.l0 k s (i : Int) = some (askR (cutP signB s.data.toList)) := by
  have hl := len_data s
  induction d with
  | zero =>
    intro k i hi hk ha
    obtain ⟨k, rfl⟩ : ∃ q, k = q + 1 := ⟨k - 1, by omega⟩
    rw [List.take_of_length_le (by omega)] at ha
    rw [foghornref12_Asked.l0, if_neg (by omega), cutP_none ha]
    rfl
  | succ d ih =>
    intro k i hi hk ha
    obtain ⟨k, rfl⟩ : ∃ q, k = q + 1 := ⟨k - 1, by omega⟩
    have hlt : i < s.data.toList.length := by omega
    rw [foghornref12_Asked.l0, if_pos (by omega), n0, ask_l1 s hs i hlt 4 k 0 (by omega) (by omega) (fun t ht => absurd ht (by omega))]
    cases hc : signB (s.data.toList[i])
    · rw [if_neg (by simp)]
      refine ih (k - 4 - 1) (i + 1) (by omega) (by omega) ?_
      intro c hcm
      rw [List.take_succ_eq_append_getElem hlt, List.mem_append, List.mem_singleton] at hcm
      rcases hcm with hcm | rfl
      · exact ha c hcm
      · exact hc
    · have e : cutP signB s.data.toList = some (s.data.toList.take i, s.data.toList[i], s.data.toList.drop (i + 1)) := by
        conv => lhs; rw [← List.take_append_drop i s.data.toList, drop_cons hlt]
        exact cutP_app hc _ ha
      rw [if_pos rfl, e]
      rfl
theorem ask_f {s : ByteArray} (hs : s.size ≤ 100000) {k : Nat} (hk : 6 * s.size < k) : foghornref12_Asked.f k s = some (askR (cutP signB s.data.toList)) :=
  ask_l0 s hs s.data.toList.length k 0 (by omega) (by rw [len_data]; omega) (by simp)
end Go.Proofs.YtjfknmlchdifjaaGreatDoorQ.P
namespace Go.Proofs.YtjfknmlchdifjaaGreatDoorQ.P
open Go.RowKit Go.Proofs.YtjfknmlchdifjaaGreatDoorW.PrintWords Go.Proofs.YtjfknmlchdifjaaGreatDoorW.PrintLast Go.Proofs.YtjfknmlchdifjaaGreatDoorW.PrintMore Go.Proofs.YtjfknmlchdifjaaGreatDoor
theorem tx_app (a b : List UInt8) : tx a ++ tx b = tx (a ++ b) := by
  apply ByteArray.ext
  rw [ByteArray.data_append]
  simp [tx]
theorem strOf_one (n : Nat) (h : n < 10) : strOfNums [(wrap64 (48 + (n : Int))) % 256] = tx [UInt8.ofNat (48 + n)] := by
  have e : (wrap64 (48 + (n : Int))) % 256 = ((48 + n : Nat) : Int) := by
    rw [w64 (by omega) (by omega)]
    omega
  rw [e]
  unfold strOfNums tx
  simp only [List.map_cons, List.map_nil, Int.toNat_natCast]
theorem digits_f : ∀ (k n : Nat), n < 10 ^ k → n ≤ 1000000000000000000 → foghornref12_Digits.f (k + 1) (n : Int) = some (tx (Lib.decDigits n))
  | k, n, h, hb => by
    rw [foghornref12_Digits.f, Lib.decDigits]
    by_cases hn : n < 10
    · rw [if_pos (by omega), dif_pos hn, strOf_one n hn]
    · rw [if_neg (by omega), dif_neg hn]
      cases k with
      | zero => simp at h; omega
      | succ k =>
        have e1 : wrap64 (Int.tdiv (n : Int) 10) = ((n / 10 : Nat) : Int) := by
          rw [Int.tdiv_eq_ediv_of_nonneg (by omega), w64 (by omega) (by omega)]
          omega
        have e2 : Int.tmod (n : Int) 10 = ((n % 10 : Nat) : Int) := by
          rw [Int.tmod_eq_emod_of_nonneg (by omega)]
          omega
        have hd : ∀ m, m < 10 → Lib.decDigits m = [UInt8.ofNat (48 + m)] := fun m hm => by rw [Lib.decDigits, dif_pos hm]
        have hl := dec_len 18 (n / 10) (by omega)
        rw [e1, e2, digits_f k (n / 10) (by rw [Nat.pow_succ] at h; omega) (by omega), Option.bind_some]
        have e3 : foghornref12_Digits.f (k + 1) ((n % 10 : Nat) : Int) = some (tx (Lib.decDigits (n % 10))) := by
          rw [foghornref12_Digits.f, if_pos (by omega), strOf_one _ (by omega), hd _ (by omega)]
        rw [e3, Option.bind_some, if_pos (by rw [tx_size, tx_size, hd (n % 10) (by omega)]; simp; omega), tx_app, hd (n % 10) (by omega)]
theorem numV_take {l : List UInt8} {i : Nat} (h : i < l.length) : numV (l.take (i + 1)) = 10 * numV (l.take i) + ((l[i]).toNat - 48) := by
  rw [List.take_succ_eq_append_getElem h, numV_snoc]
theorem dig_no {c : UInt8} (h : c.toNat < 48 ∨ 57 < c.toNat) : digB c = false := by
  unfold digB
  rcases h with h | h
  · rw [decide_eq_false (p := 48 ≤ c.toNat) (by omega), Bool.false_and]
  · rw [decide_eq_false (p := c.toNat ≤ 57) (by omega), Bool.and_false]
theorem number_l (s : ByteArray) (hs : s.size ≤ 100000) (d : Nat) : ∀ (k i n : Nat), i + d = s.data.toList.length → d + 21 < k → n = numV (s.data.toList.take i) → n ≤ 20000000000000 → 
    ∃ v : Int, foghornref12_Number.l0 k s (n : Int) (i : Int) = some (v, numB s.data.toList) ∧ (numB s.data.toList = true → v = (numV s.data.toList : Int)) := by
  have hl := len_data s
  induction d with
  | zero =>
    intro k i n hi hk hv hb
    obtain ⟨k, rfl⟩ : ∃ q, k = q + 1 := ⟨k - 1, by omega⟩
    rw [List.take_of_length_le (by omega)] at hv
    rw [foghornref12_Number.l0, if_neg (by omega), toList_data]
    subst hv
    by_cases he : s.data.toList = []
    · rw [if_pos he, he, numB_nil]
      exact ⟨_, rfl, fun h => by cases h⟩
    · rw [if_neg he]
      by_cases hbig : numV s.data.toList ≤ 1099511627776
      · obtain ⟨k, rfl⟩ : ∃ q, k = q + 1 := ⟨k - 1, by omega⟩
        rw [if_pos (by omega), digits_f k _ (Nat.lt_of_lt_of_le (show numV s.data.toList < 10 ^ 20 by omega) (Nat.pow_le_pow_right (by omega) (by omega))) (by omega), Option.bind_some, tx_toList]
        refine ⟨_, ?_, fun _ => rfl⟩
        congr 2
        unfold numB
        rw [decide_eq_true hbig, Bool.and_true, Bool.eq_iff_iff, beq_iff_eq, decide_eq_true_eq]
      · rw [if_neg (by omega)]
        have : numB s.data.toList = false := by
          unfold numB
          rw [decide_eq_false hbig, Bool.and_false]
        rw [this]
        exact ⟨_, rfl, fun h => by cases h⟩
  | succ d ih =>
    intro k i n hi hk hv hb
    obtain ⟨k, rfl⟩ : ∃ q, k = q + 1 := ⟨k - 1, by omega⟩
    have hlt : i < s.data.toList.length := by omega
    have hd : s.data.toList = s.data.toList.take i ++ s.data.toList[i] :: s.data.toList.drop (i + 1) := by rw [← drop_cons hlt, List.take_append_drop]
    have bad : digB (s.data.toList[i]) = false → numB s.data.toList = false := fun h => numB_no_dig (all_no hlt h)
    have hc := (s.data.toList[i]).toNat_lt
    rw [foghornref12_Number.l0, if_pos (by omega), if_pos (by omega), bt_list hlt]
    by_cases h1 : (s.data.toList[i]).toNat < 48
    · rw [if_pos (by omega), bad (dig_no (by omega))]
      exact ⟨_, rfl, fun h => by cases h⟩
    · rw [if_neg (by omega)]
      by_cases h2 : 57 < (s.data.toList[i]).toNat
      · rw [if_pos (by omega), bad (dig_no (by omega))]
        exact ⟨_, rfl, fun h => by cases h⟩
      · rw [if_neg (by omega)]
        by_cases h3 : 1099511627776 < n
        · rw [if_pos (by omega)]
          have : numB s.data.toList = false := by
            conv => lhs; rw [hd]
            exact numB_big (by omega)
          rw [this]
          exact ⟨_, rfl, fun h => by cases h⟩
        · rw [if_neg (by omega)]
          have e : wrap64 (wrap64 (10 * (n : Int)) + (((s.data.toList[i]).toNat : Int) - 48) % 256) = ((10 * n + ((s.data.toList[i]).toNat - 48) : Nat) : Int) := by
            rw [w64 (x := 10 * (n : Int)) (by omega) (by omega), w64 (by omega) (by omega)]
            omega
          rw [e, w64s (by omega)]
          exact ih k (i + 1) _ (by omega) (by omega) (by rw [numV_take hlt, hv]) (by omega)
theorem number_f {s : ByteArray} (hs : s.size ≤ 100000) {k : Nat} (hk : s.size + 21 < k) : ∃ v : Int, foghornref12_Number.f k s = some (v, numB s.data.toList) ∧ (numB s.data.toList = true → v = (numV s.data.toList : Int)) :=
  number_l s hs s.data.toList.length k 0 0 (by omega) (by rw [len_data]; omega) rfl (by omega)
end Go.Proofs.YtjfknmlchdifjaaGreatDoorQ.P
namespace Go.Proofs.YtjfknmlchdifjaaGreatDoorQ.P
open Go.RowKit Go.Proofs.YtjfknmlchdifjaaGreatDoorW.PrintWords Go.Proofs.YtjfknmlchdifjaaGreatDoorW.PrintLast Go.Proofs.YtjfknmlchdifjaaGreatDoorW.PrintMore
attribute [local go_sem] max2_int min2_int max_two min_two max_three min_three max_four min_four
def foghornref06_Right.f (a0_0 : Int) (a0_1 : Int) (a0_2 : Int) : Option (Bool) := if a0_0 ≥ 1 then (if a0_0 ≤ 1048576 then (if a0_1 ≥ a0_0 then (if a0_1 ≤ 1073741824 then (if a0_2 ≥ 0 then (some (decide (a0_2 ≤ 1048576))) else (some false)) else (some false)) else (some false)) else (some false)) else (some false)
set_option maxHeartbeats 8000000 in
set_option maxRecDepth 100000 in
theorem foghornref06_Right.calls (a0_0 : Int) (a0_1 : Int) (a0_2 : Int) (r : Bool) (w : World) (h : foghornref06_Right.f a0_0 a0_1 a0_2 = some r) :
  Calls Tryz.prog 113 #[.agg #[.int .i64 a0_0, .int .i64 a0_1, .int .i64 a0_2]] w fun e w' => e = .returned (.bool r) ∧ Below w.heap.size w w' := by
 have hu88 := Tryz.underlying88
 have HB := aA (Below.refl w.heap.size w)
 have H : (if a0_0 ≥ 1 then (if a0_0 ≤ 1048576 then (if a0_1 ≥ a0_0 then (if a0_1 ≤ 1073741824 then (if a0_2 ≥ 0 then (some (decide (a0_2 ≤ 1048576))) else (some false)) else (some false)) else (some false)) else (some false)) else (some false)) = some r := h
 clear h
 by_cases c2 : a0_0 ≥ 1
 ·rw [if_pos c2] at H
  have c2b0 : decide (1 ≤ a0_0) = true := decide_eq_true c2
  clear c2
  by_cases c3 : a0_0 ≤ 1048576
  ·rw [if_pos c3] at H
   have c3b0 : decide (a0_0 ≤ 1048576) = true := decide_eq_true c3
   clear c3
   by_cases c4 : a0_1 ≥ a0_0
   ·rw [if_pos c4] at H
    have c4b0 : decide (a0_0 ≤ a0_1) = true := decide_eq_true c4
    clear c4
    by_cases c5 : a0_1 ≤ 1073741824
    ·rw [if_pos c5] at H
     have c5b0 : decide (a0_1 ≤ 1073741824) = true := decide_eq_true c5
     clear c5
     by_cases c6 : a0_2 ≥ 0
     ·rw [if_pos c6] at H
      have c6b0 : decide (0 ≤ a0_2) = true := decide_eq_true c6
      clear c6
      obtain rfl := Option.some.inj H
      go_enter Tryz.func113, Tryz.ntmps113
      go_wp2_with (first | ((with_reducible refine gate_dst (N := 1) rfl ?_); refine box_event ?hg (N := 1) ?hd (cs := #[.int .i64 a0_0, .int .i64 a0_1, .int .i64 a0_2]) (t := 88) ?hr ?_; (case hd => rfl); (case hg => rfl); (case hr => first | (go_simp; done) | (go_simp; rfl)); intro gb151 hg w7 hbox hb; have n0_ := aA (below_step mB hb); have n1_ := aA (hbox); have n2_ := aA ((bZ hg mB)); have n3_ := aA ((bZ hg mB)); clear HB; have HB := n0_; have BK151 := n1_; have GW151 := n2_; have GE151 := n3_; clear n0_ n1_ n2_ n3_ hb hbox hg; obtain ⟨hcz8_0, hcz8_1, hcz8_2⟩ := bC3 BK151.out; obtain ⟨hfz8_0, hfz8_1, hfz8_2⟩ := bF3 BK151.out))
      go_ret
      exact ⟨by first | rfl | (simp [errW_none, errW_some] <;> rfl) | (simp [*, errW_none, errW_some] <;> rfl), by repeat (first | (with_reducible first | exact HB.out | apply below_alloc | apply pw_below_drewN | apply below_drew1 | refine below_set ?_ GE151.out) | exact HB.out)⟩
     ·rw [if_neg c6] at H
      have c6b0 : decide (0 ≤ a0_2) = false := decide_eq_false c6
      clear c6
      obtain rfl := Option.some.inj H
      go_enter Tryz.func113, Tryz.ntmps113
      go_wp2_with (first | ((with_reducible refine gate_dst (N := 1) rfl ?_); refine box_event ?hg (N := 1) ?hd (cs := #[.int .i64 a0_0, .int .i64 a0_1, .int .i64 a0_2]) (t := 88) ?hr ?_; (case hd => rfl); (case hg => rfl); (case hr => first | (go_simp; done) | (go_simp; rfl)); intro gb151 hg w9 hbox hb; have n0_ := aA (below_step mB hb); have n1_ := aA (hbox); have n2_ := aA ((bZ hg mB)); have n3_ := aA ((bZ hg mB)); clear HB; have HB := n0_; have BK151 := n1_; have GW151 := n2_; have GE151 := n3_; clear n0_ n1_ n2_ n3_ hb hbox hg; obtain ⟨hcz10_0, hcz10_1, hcz10_2⟩ := bC3 BK151.out; obtain ⟨hfz10_0, hfz10_1, hfz10_2⟩ := bF3 BK151.out))
      go_ret
      exact ⟨by first | rfl | (simp [errW_none, errW_some] <;> rfl) | (simp [*, errW_none, errW_some] <;> rfl), by repeat (first | (with_reducible first | exact HB.out | apply below_alloc | apply pw_below_drewN | apply below_drew1 | refine below_set ?_ GE151.out) | exact HB.out)⟩
    ·rw [if_neg c5] at H
     have c5b0 : decide (a0_1 ≤ 1073741824) = false := decide_eq_false c5
     clear c5
     obtain rfl := Option.some.inj H
     go_enter Tryz.func113, Tryz.ntmps113
     go_wp2_with (first | ((with_reducible refine gate_dst (N := 1) rfl ?_); refine box_event ?hg (N := 1) ?hd (cs := #[.int .i64 a0_0, .int .i64 a0_1, .int .i64 a0_2]) (t := 88) ?hr ?_; (case hd => rfl); (case hg => rfl); (case hr => first | (go_simp; done) | (go_simp; rfl)); intro gb151 hg w11 hbox hb; have n0_ := aA (below_step mB hb); have n1_ := aA (hbox); have n2_ := aA ((bZ hg mB)); have n3_ := aA ((bZ hg mB)); clear HB; have HB := n0_; have BK151 := n1_; have GW151 := n2_; have GE151 := n3_; clear n0_ n1_ n2_ n3_ hb hbox hg; obtain ⟨hcz12_0, hcz12_1, hcz12_2⟩ := bC3 BK151.out; obtain ⟨hfz12_0, hfz12_1, hfz12_2⟩ := bF3 BK151.out))
     go_ret
     exact ⟨by first | rfl | (simp [errW_none, errW_some] <;> rfl) | (simp [*, errW_none, errW_some] <;> rfl), by repeat (first | (with_reducible first | exact HB.out | apply below_alloc | apply pw_below_drewN | apply below_drew1 | refine below_set ?_ GE151.out) | exact HB.out)⟩
   ·rw [if_neg c4] at H
    have c4b0 : decide (a0_0 ≤ a0_1) = false := decide_eq_false c4
    clear c4
    obtain rfl := Option.some.inj H
    go_enter Tryz.func113, Tryz.ntmps113
    go_wp2_with (first | ((with_reducible refine gate_dst (N := 1) rfl ?_); refine box_event ?hg (N := 1) ?hd (cs := #[.int .i64 a0_0, .int .i64 a0_1, .int .i64 a0_2]) (t := 88) ?hr ?_; (case hd => rfl); (case hg => rfl); (case hr => first | (go_simp; done) | (go_simp; rfl)); intro gb151 hg w13 hbox hb; have n0_ := aA (below_step mB hb); have n1_ := aA (hbox); have n2_ := aA ((bZ hg mB)); have n3_ := aA ((bZ hg mB)); clear HB; have HB := n0_; have BK151 := n1_; have GW151 := n2_; have GE151 := n3_; clear n0_ n1_ n2_ n3_ hb hbox hg; obtain ⟨hcz14_0, hcz14_1, hcz14_2⟩ := bC3 BK151.out; obtain ⟨hfz14_0, hfz14_1, hfz14_2⟩ := bF3 BK151.out))
    go_ret
    exact ⟨by first | rfl | (simp [errW_none, errW_some] <;> rfl) | (simp [*, errW_none, errW_some] <;> rfl), by repeat (first | (with_reducible first | exact HB.out | apply below_alloc | apply pw_below_drewN | apply below_drew1 | refine below_set ?_ GE151.out) | exact HB.out)⟩
  ·rw [if_neg c3] at H
   have c3b0 : decide (a0_0 ≤ 1048576) = false := decide_eq_false c3
   clear c3
   obtain rfl := Option.some.inj H
   go_enter Tryz.func113, Tryz.ntmps113
   go_wp2_with (first | ((with_reducible refine gate_dst (N := 1) rfl ?_); refine box_event ?hg (N := 1) ?hd (cs := #[.int .i64 a0_0, .int .i64 a0_1, .int .i64 a0_2]) (t := 88) ?hr ?_; (case hd => rfl); (case hg => rfl); (case hr => first | (go_simp; done) | (go_simp; rfl)); intro gb151 hg w15 hbox hb; have n0_ := aA (below_step mB hb); have n1_ := aA (hbox); have n2_ := aA ((bZ hg mB)); have n3_ := aA ((bZ hg mB)); clear HB; have HB := n0_; have BK151 := n1_; have GW151 := n2_; have GE151 := n3_; clear n0_ n1_ n2_ n3_ hb hbox hg; obtain ⟨hcz16_0, hcz16_1, hcz16_2⟩ := bC3 BK151.out; obtain ⟨hfz16_0, hfz16_1, hfz16_2⟩ := bF3 BK151.out))
   go_ret
   exact ⟨by first | rfl | (simp [errW_none, errW_some] <;> rfl) | (simp [*, errW_none, errW_some] <;> rfl), by repeat (first | (with_reducible first | exact HB.out | apply below_alloc | apply pw_below_drewN | apply below_drew1 | refine below_set ?_ GE151.out) | exact HB.out)⟩
 ·rw [if_neg c2] at H
  have c2b0 : decide (1 ≤ a0_0) = false := decide_eq_false c2
  clear c2
  obtain rfl := Option.some.inj H
  go_enter Tryz.func113, Tryz.ntmps113
  go_wp2_with (first | ((with_reducible refine gate_dst (N := 1) rfl ?_); refine box_event ?hg (N := 1) ?hd (cs := #[.int .i64 a0_0, .int .i64 a0_1, .int .i64 a0_2]) (t := 88) ?hr ?_; (case hd => rfl); (case hg => rfl); (case hr => first | (go_simp; done) | (go_simp; rfl)); intro gb151 hg w17 hbox hb; have n0_ := aA (below_step mB hb); have n1_ := aA (hbox); have n2_ := aA ((bZ hg mB)); have n3_ := aA ((bZ hg mB)); clear HB; have HB := n0_; have BK151 := n1_; have GW151 := n2_; have GE151 := n3_; clear n0_ n1_ n2_ n3_ hb hbox hg; obtain ⟨hcz18_0, hcz18_1, hcz18_2⟩ := bC3 BK151.out; obtain ⟨hfz18_0, hfz18_1, hfz18_2⟩ := bF3 BK151.out))
  go_ret
  exact ⟨by first | rfl | (simp [errW_none, errW_some] <;> rfl) | (simp [*, errW_none, errW_some] <;> rfl), by repeat (first | (with_reducible first | exact HB.out | apply below_alloc | apply pw_below_drewN | apply below_drew1 | refine below_set ?_ GE151.out) | exact HB.out)⟩
end Go.Proofs.YtjfknmlchdifjaaGreatDoorQ.P
namespace Go.Proofs.YtjfknmlchdifjaaGreatDoorQ.P
open Go.RowKit Go.Proofs.YtjfknmlchdifjaaGreatDoorW.PrintWords Go.Proofs.YtjfknmlchdifjaaGreatDoorW.PrintLast Go.Proofs.YtjfknmlchdifjaaGreatDoorW.PrintMore
attribute [local go_sem] max2_int min2_int max_two min_two max_three min_three max_four min_four
def foghornref05_Right.f (a0 : Int) : Option (Bool) := if a0 ≥ 0 then (some (decide (a0 ≤ 1099511627776))) else (some false)
set_option maxHeartbeats 8000000 in
set_option maxRecDepth 100000 in
theorem foghornref05_Right.calls (a0 : Int) (r : Bool) (w : World) (h : foghornref05_Right.f a0 = some r) :
  Calls Tryz.prog 93 #[.int .i64 a0] w fun e w' => e = .returned (.bool r) ∧ Drawn0 w w' := by
 have H : (if a0 ≥ 0 then (some (decide (a0 ≤ 1099511627776))) else (some false)) = some r := h
 clear h
 by_cases c2 : a0 ≥ 0
 ·rw [if_pos c2] at H
  have c2b0 : decide (0 ≤ a0) = true := decide_eq_true c2
  clear c2
  obtain rfl := Option.some.inj H
  go_enter Tryz.func93, Tryz.ntmps93
  go_wp2
  go_ret
  exact ⟨by first | rfl | (simp; done) | (simp [*]; done), by repeat (first | exact Drawn0.refl _ | apply Drawn0.step)⟩
 ·rw [if_neg c2] at H
  have c2b0 : decide (0 ≤ a0) = false := decide_eq_false c2
  clear c2
  obtain rfl := Option.some.inj H
  go_enter Tryz.func93, Tryz.ntmps93
  go_wp2
  go_ret
  exact ⟨by first | rfl | (simp; done) | (simp [*]; done), by repeat (first | exact Drawn0.refl _ | apply Drawn0.step)⟩
end Go.Proofs.YtjfknmlchdifjaaGreatDoorQ.P
namespace Go.Proofs.YtjfknmlchdifjaaGreatDoorQ.P
open Go.RowKit Go.Proofs.YtjfknmlchdifjaaGreatDoorW.PrintWords Go.Proofs.YtjfknmlchdifjaaGreatDoorW.PrintLast Go.Proofs.YtjfknmlchdifjaaGreatDoorW.PrintMore
attribute [local go_sem] max2_int min2_int max_two min_two max_three min_three max_four min_four
def foghornref07_Right.j0 : Nat → Bool → Int → Int → Int → Int → Int → Option (Bool)
 | 0, _, _, _, _, _, _ => none
 | k + 1, x20, x153000, x153001, x153002, x153003, x153004 => if x20 = true then (some false) else (if x153002 = 0 then (if x153003 ≥ 0 then (if x153003 < x153000 then (some (x153004 == 0)) else (some false)) else (some false)) else (if x153002 = 1 then (if x153003 = 0 then ((foghornref05_Right.f x153004).bind fun t153 => (some t153)) else (some false)) else (if x153002 = 2 then (if x153003 = 0 then (some (x153004 == 0)) else (some false)) else (some false))))
def foghornref07_Right.f (k : Nat) (a0_0 : Int) (a0_1 : Int) (a0_2 : Int) (a0_3 : Int) (a0_4 : Int) : Option (Bool) := if a0_0 < 1 then (foghornref07_Right.j0 k true a0_0 a0_1 a0_2 a0_3 a0_4) else (if a0_0 > 100 then (foghornref07_Right.j0 k true a0_0 a0_1 a0_2 a0_3 a0_4) else (if a0_1 < 1 then (foghornref07_Right.j0 k true a0_0 a0_1 a0_2 a0_3 a0_4) else (foghornref07_Right.j0 k (decide (a0_1 > 1048576)) a0_0 a0_1 a0_2 a0_3 a0_4)))
set_option maxHeartbeats 8000000 in
set_option maxRecDepth 100000 in
theorem foghornref07_Right.calls (k : Nat) (a0_0 : Int) (a0_1 : Int) (a0_2 : Int) (a0_3 : Int) (a0_4 : Int) (r : Bool) (w : World) (h : foghornref07_Right.f k a0_0 a0_1 a0_2 a0_3 a0_4 = some r) :
  Calls Tryz.prog 114 #[.agg #[.int .i64 a0_0, .int .i64 a0_1, .int .i64 a0_2, .int .i64 a0_3, .int .i64 a0_4]] w fun e w' => e = .returned (.bool r) ∧ Below w.heap.size w w' := by
 have hu141 := Tryz.underlying141
 have HB := aA (Below.refl w.heap.size w)
 have H : (if a0_0 < 1 then (foghornref07_Right.j0 k true a0_0 a0_1 a0_2 a0_3 a0_4) else (if a0_0 > 100 then (foghornref07_Right.j0 k true a0_0 a0_1 a0_2 a0_3 a0_4) else (if a0_1 < 1 then (foghornref07_Right.j0 k true a0_0 a0_1 a0_2 a0_3 a0_4) else (foghornref07_Right.j0 k (decide (a0_1 > 1048576)) a0_0 a0_1 a0_2 a0_3 a0_4)))) = some r := h
 clear h
 have HC2 := aA H
 clear H
 go_enter Tryz.func114, Tryz.ntmps114
 go_upto_region 1 with (first | ((with_reducible refine gate_dst (N := 1) rfl ?_); refine box_event ?hg (N := 1) ?hd (cs := #[.int .i64 a0_0, .int .i64 a0_1, .int .i64 a0_2, .int .i64 a0_3, .int .i64 a0_4]) (t := 141) ?hr ?_; (case hd => rfl); (case hg => rfl); (case hr => first | (go_simp; done) | (go_simp; rfl)); intro gb152 hg w3 hbox hb; have n0_ := aA (below_step mB hb); have n1_ := aA (hbox); have n2_ := aA ((bZ hg mB)); have n3_ := aA ((bZ hg mB)); clear HB; have HB := n0_; have BK152 := n1_; have GW152 := n2_; have GE152 := n3_; clear n0_ n1_ n2_ n3_ hb hbox hg))
 (try simp only [Act.put, List.setIfInBounds_toArray, List.set_cons_zero, List.set_cons_succ])
 go_cut [20] (fun v20 wc => ∃ (kq : Nat) (x20_1 : Bool), v20 = .bool x20_1 ∧ Aside0 (foghornref07_Right.j0 kq x20_1 a0_0 a0_1 a0_2 a0_3 a0_4 = some r) ∧ Aside0 (kq ≤ k) ∧ Aside0 (wc.heap[gb152]? = some (.cells #[.int .i64 a0_0, .int .i64 a0_1, .int .i64 a0_2, .int .i64 a0_3, .int .i64 a0_4] 141 (0, 0))) ∧ Aside0 (Below w.heap.size w wc))
 case first =>
  have H := HC2.out
  clear HC2
  by_cases c4 : a0_0 < 1
  ·rw [if_pos c4] at H
   have c4b0 : decide (a0_0 < 1) = true := decide_eq_true c4
   clear c4
   (first | rw [c4b0] | (simp only [i64_w, i32_w]; rw [c4b0]) | skip)
   have H' := aA H
   clear H
   obtain ⟨hcz5_0, hcz5_1, hcz5_2, hcz5_3, hcz5_4⟩ := bC5 BK152.out
   obtain ⟨hfz5_0, hfz5_1, hfz5_2, hfz5_3, hfz5_4⟩ := bF5 BK152.out
   go_wp2
   go_meet
   case rel => exact ⟨_, (true), (by first | rfl | (simp; done) | (simp [*]; done)), H', ⟨by first | omega | exact Nat.le_refl _⟩, ⟨by (with_reducible repeat (first | refine blk_drewN ?_ _ | refine blk_drew ?_ | refine blk_alloc ?_ _)); exact BK152.out⟩, ⟨by repeat (first | (with_reducible first | exact HB.out | apply below_alloc | apply pw_below_drewN | apply below_drew1 | refine below_set ?_ GE152.out) | exact HB.out)⟩⟩
  ·rw [if_neg c4] at H
   have c4b0 : decide (a0_0 < 1) = false := decide_eq_false c4
   clear c4
   (first | rw [c4b0] | (simp only [i64_w, i32_w]; rw [c4b0]) | skip)
   by_cases c6 : a0_0 > 100
   ·rw [if_pos c6] at H
    have c6b0 : decide (100 < a0_0) = true := decide_eq_true c6
    clear c6
    have H' := aA H
    clear H
    obtain ⟨hcz7_0, hcz7_1, hcz7_2, hcz7_3, hcz7_4⟩ := bC5 BK152.out
    obtain ⟨hfz7_0, hfz7_1, hfz7_2, hfz7_3, hfz7_4⟩ := bF5 BK152.out
    go_wp2
    go_meet
    case rel => exact ⟨_, (true), (by first | rfl | (simp; done) | (simp [*]; done)), H', ⟨by first | omega | exact Nat.le_refl _⟩, ⟨by (with_reducible repeat (first | refine blk_drewN ?_ _ | refine blk_drew ?_ | refine blk_alloc ?_ _)); exact BK152.out⟩, ⟨by repeat (first | (with_reducible first | exact HB.out | apply below_alloc | apply pw_below_drewN | apply below_drew1 | refine below_set ?_ GE152.out) | exact HB.out)⟩⟩
   ·rw [if_neg c6] at H
    have c6b0 : decide (100 < a0_0) = false := decide_eq_false c6
    clear c6
    by_cases c8 : a0_1 < 1
    ·rw [if_pos c8] at H
     have c8b0 : decide (a0_1 < 1) = true := decide_eq_true c8
     clear c8
     have H' := aA H
     clear H
     obtain ⟨hcz9_0, hcz9_1, hcz9_2, hcz9_3, hcz9_4⟩ := bC5 BK152.out
     obtain ⟨hfz9_0, hfz9_1, hfz9_2, hfz9_3, hfz9_4⟩ := bF5 BK152.out
     go_wp2
     go_meet
     case rel => exact ⟨_, (true), (by first | rfl | (simp; done) | (simp [*]; done)), H', ⟨by first | omega | exact Nat.le_refl _⟩, ⟨by (with_reducible repeat (first | refine blk_drewN ?_ _ | refine blk_drew ?_ | refine blk_alloc ?_ _)); exact BK152.out⟩, ⟨by repeat (first | (with_reducible first | exact HB.out | apply below_alloc | apply pw_below_drewN | apply below_drew1 | refine below_set ?_ GE152.out) | exact HB.out)⟩⟩
    ·rw [if_neg c8] at H
     have c8b0 : decide (a0_1 < 1) = false := decide_eq_false c8
     clear c8
     have H' := aA H
     clear H
     obtain ⟨hcz10_0, hcz10_1, hcz10_2, hcz10_3, hcz10_4⟩ := bC5 BK152.out
     obtain ⟨hfz10_0, hfz10_1, hfz10_2, hfz10_3, hfz10_4⟩ := bF5 BK152.out
     go_wp2
     go_meet
     case rel => exact ⟨_, (decide (a0_1 > 1048576)), (by first | rfl | (simp; done) | (simp [*]; done)), H', ⟨by first | omega | exact Nat.le_refl _⟩, ⟨by (with_reducible repeat (first | refine blk_drewN ?_ _ | refine blk_drew ?_ | refine blk_alloc ?_ _)); exact BK152.out⟩, ⟨by repeat (first | (with_reducible first | exact HB.out | apply below_alloc | apply pw_below_drewN | apply below_drew1 | refine below_set ?_ GE152.out) | exact HB.out)⟩⟩
 case rest =>
  clear HC2
  try clear c1
  try clear p2
  try clear c4
  try clear c4b0
  try clear c6
  try clear c6b0
  try clear c8
  try clear c8b0
  try clear hcz10_0 hcz10_1 hcz10_2 hcz10_3 hcz10_4
  try clear hcz5_0 hcz5_1 hcz5_2 hcz5_3 hcz5_4
  try clear hcz7_0 hcz7_1 hcz7_2 hcz7_3 hcz7_4
  try clear hcz9_0 hcz9_1 hcz9_2 hcz9_3 hcz9_4
  try clear hfz10_0 hfz10_1 hfz10_2 hfz10_3 hfz10_4
  try clear hfz5_0 hfz5_1 hfz5_2 hfz5_3 hfz5_4
  try clear hfz7_0 hfz7_1 hfz7_2 hfz7_3 hfz7_4
  try clear hfz9_0 hfz9_1 hfz9_2 hfz9_3 hfz9_4
  obtain ⟨kq, x20_1, rfl, HA, HJ1, BK152, HB⟩ := hcut
  cases kq with
  | zero => exact absurd HA.out (by simp [foghornref07_Right.j0])
  | succ kj1 =>
   have H := HA.out
   clear HA
   simp only [foghornref07_Right.j0] at H
   by_cases c11 : x20_1 = true
   ·subst c11
    have H1 : (some false) = some r := by rw [if_pos rfl] at H; exact H
    clear H
    have H := H1
    clear H1
    obtain rfl := Option.some.inj H
    go_wp2
    go_ret
    exact ⟨by first | rfl | (simp [errW_none, errW_some] <;> rfl) | (simp [*, errW_none, errW_some] <;> rfl), by repeat (first | (with_reducible first | exact HB.out | apply below_alloc | apply pw_below_drewN | apply below_drew1 | refine below_set ?_ GE152.out) | exact HB.out)⟩
   ·replace c11 := Bool.eq_false_iff.mpr c11
    subst c11
    have H1 : (if a0_2 = 0 then (if a0_3 ≥ 0 then (if a0_3 < a0_0 then (some (a0_4 == 0)) else (some false)) else (some false)) else (if a0_2 = 1 then (if a0_3 = 0 then ((foghornref05_Right.f a0_4).bind fun t153 => (some t153)) else (some false)) else (if a0_2 = 2 then (if a0_3 = 0 then (some (a0_4 == 0)) else (some false)) else (some false)))) = some r := by rw [if_neg (show ¬ (false = true) by decide)] at H; exact H
    clear H
    have H := H1
    clear H1
    by_cases c12 : a0_2 = 0
    ·rw [if_pos c12] at H
     have c12b0 : (a0_2 == 0) = true := beq_iff_eq.mpr c12
     have c12b1 : (a0_2 != 0) = false := bne_eq_false_iff_eq.mpr c12
     clear c12
     by_cases c13 : a0_3 ≥ 0
     ·rw [if_pos c13] at H
      have c13b0 : decide (0 ≤ a0_3) = true := decide_eq_true c13
      clear c13
      by_cases c14 : a0_3 < a0_0
      ·rw [if_pos c14] at H
       have c14b0 : decide (a0_3 < a0_0) = true := decide_eq_true c14
       clear c14
       obtain rfl := Option.some.inj H
       obtain ⟨hcz15_0, hcz15_1, hcz15_2, hcz15_3, hcz15_4⟩ := bC5 BK152.out
       obtain ⟨hfz15_0, hfz15_1, hfz15_2, hfz15_3, hfz15_4⟩ := bF5 BK152.out
       go_wp2
       go_ret
       exact ⟨by first | rfl | (simp [errW_none, errW_some] <;> rfl) | (simp [*, errW_none, errW_some] <;> rfl), by repeat (first | (with_reducible first | exact HB.out | apply below_alloc | apply pw_below_drewN | apply below_drew1 | refine below_set ?_ GE152.out) | exact HB.out)⟩
      ·rw [if_neg c14] at H
       have c14b0 : decide (a0_3 < a0_0) = false := decide_eq_false c14
       clear c14
       obtain rfl := Option.some.inj H
       obtain ⟨hcz16_0, hcz16_1, hcz16_2, hcz16_3, hcz16_4⟩ := bC5 BK152.out
       obtain ⟨hfz16_0, hfz16_1, hfz16_2, hfz16_3, hfz16_4⟩ := bF5 BK152.out
       go_wp2
       go_ret
       exact ⟨by first | rfl | (simp [errW_none, errW_some] <;> rfl) | (simp [*, errW_none, errW_some] <;> rfl), by repeat (first | (with_reducible first | exact HB.out | apply below_alloc | apply pw_below_drewN | apply below_drew1 | refine below_set ?_ GE152.out) | exact HB.out)⟩
     ·rw [if_neg c13] at H
      have c13b0 : decide (0 ≤ a0_3) = false := decide_eq_false c13
      clear c13
      obtain rfl := Option.some.inj H
      obtain ⟨hcz17_0, hcz17_1, hcz17_2, hcz17_3, hcz17_4⟩ := bC5 BK152.out
      obtain ⟨hfz17_0, hfz17_1, hfz17_2, hfz17_3, hfz17_4⟩ := bF5 BK152.out
      go_wp2
      go_ret
      exact ⟨by first | rfl | (simp [errW_none, errW_some] <;> rfl) | (simp [*, errW_none, errW_some] <;> rfl), by repeat (first | (with_reducible first | exact HB.out | apply below_alloc | apply pw_below_drewN | apply below_drew1 | refine below_set ?_ GE152.out) | exact HB.out)⟩
    ·rw [if_neg c12] at H
     have c12b0 : (a0_2 == 0) = false := beq_eq_false_iff_ne.mpr c12
     have c12b1 : (a0_2 != 0) = true := bne_iff_ne.mpr c12
     by_cases c18 : a0_2 = 1
     ·rw [if_pos c18] at H
      have c18b0 : (a0_2 == 1) = true := beq_iff_eq.mpr c18
      have c18b1 : (a0_2 != 1) = false := bne_eq_false_iff_eq.mpr c18
      clear c18
      by_cases c19 : a0_3 = 0
      ·rw [if_pos c19] at H
       have c19b0 : (a0_3 == 0) = true := beq_iff_eq.mpr c19
       have c19b1 : (a0_3 != 0) = false := bne_eq_false_iff_eq.mpr c19
       clear c19
       replace H := Option.bind_eq_some_iff.mp H
       obtain ⟨t153, A200, H⟩ := H
       have A20 := aA A200
       clear A200
       obtain rfl := Option.some.inj H
       obtain ⟨hcz21_0, hcz21_1, hcz21_2, hcz21_3, hcz21_4⟩ := bC5 BK152.out
       obtain ⟨hfz21_0, hfz21_1, hfz21_2, hfz21_3, hfz21_4⟩ := bF5 BK152.out
       go_wp2_with (first | (go_at_call 93; (with_reducible refine (foghornref05_Right.calls a0_4 t153 _ A20.out).mono ?_); rintro e w' ⟨rfl, ⟨nd, rfl⟩⟩))
       go_ret
       exact ⟨by first | rfl | (simp [errW_none, errW_some] <;> rfl) | (simp [*, errW_none, errW_some] <;> rfl), by repeat (first | (with_reducible first | exact HB.out | apply below_alloc | apply pw_below_drewN | apply below_drew1 | refine below_set ?_ GE152.out) | exact HB.out)⟩
      ·rw [if_neg c19] at H
       have c19b0 : (a0_3 == 0) = false := beq_eq_false_iff_ne.mpr c19
       have c19b1 : (a0_3 != 0) = true := bne_iff_ne.mpr c19
       obtain rfl := Option.some.inj H
       obtain ⟨hcz22_0, hcz22_1, hcz22_2, hcz22_3, hcz22_4⟩ := bC5 BK152.out
       obtain ⟨hfz22_0, hfz22_1, hfz22_2, hfz22_3, hfz22_4⟩ := bF5 BK152.out
       go_wp2
       go_ret
       exact ⟨by first | rfl | (simp [errW_none, errW_some] <;> rfl) | (simp [*, errW_none, errW_some] <;> rfl), by repeat (first | (with_reducible first | exact HB.out | apply below_alloc | apply pw_below_drewN | apply below_drew1 | refine below_set ?_ GE152.out) | exact HB.out)⟩
     ·rw [if_neg c18] at H
      have c18b0 : (a0_2 == 1) = false := beq_eq_false_iff_ne.mpr c18
      have c18b1 : (a0_2 != 1) = true := bne_iff_ne.mpr c18
      by_cases c23 : a0_2 = 2
      ·rw [if_pos c23] at H
       have c23b0 : (a0_2 == 2) = true := beq_iff_eq.mpr c23
       have c23b1 : (a0_2 != 2) = false := bne_eq_false_iff_eq.mpr c23
       clear c23
       by_cases c24 : a0_3 = 0
       ·rw [if_pos c24] at H
        have c24b0 : (a0_3 == 0) = true := beq_iff_eq.mpr c24
        have c24b1 : (a0_3 != 0) = false := bne_eq_false_iff_eq.mpr c24
        clear c24
        obtain rfl := Option.some.inj H
        obtain ⟨hcz25_0, hcz25_1, hcz25_2, hcz25_3, hcz25_4⟩ := bC5 BK152.out
        obtain ⟨hfz25_0, hfz25_1, hfz25_2, hfz25_3, hfz25_4⟩ := bF5 BK152.out
        go_wp2
        go_ret
        exact ⟨by first | rfl | (simp [errW_none, errW_some] <;> rfl) | (simp [*, errW_none, errW_some] <;> rfl), by repeat (first | (with_reducible first | exact HB.out | apply below_alloc | apply pw_below_drewN | apply below_drew1 | refine below_set ?_ GE152.out) | exact HB.out)⟩
       ·rw [if_neg c24] at H
        have c24b0 : (a0_3 == 0) = false := beq_eq_false_iff_ne.mpr c24
        have c24b1 : (a0_3 != 0) = true := bne_iff_ne.mpr c24
        obtain rfl := Option.some.inj H
        obtain ⟨hcz26_0, hcz26_1, hcz26_2, hcz26_3, hcz26_4⟩ := bC5 BK152.out
        obtain ⟨hfz26_0, hfz26_1, hfz26_2, hfz26_3, hfz26_4⟩ := bF5 BK152.out
        go_wp2
        go_ret
        exact ⟨by first | rfl | (simp [errW_none, errW_some] <;> rfl) | (simp [*, errW_none, errW_some] <;> rfl), by repeat (first | (with_reducible first | exact HB.out | apply below_alloc | apply pw_below_drewN | apply below_drew1 | refine below_set ?_ GE152.out) | exact HB.out)⟩
      ·rw [if_neg c23] at H
       have c23b0 : (a0_2 == 2) = false := beq_eq_false_iff_ne.mpr c23
       have c23b1 : (a0_2 != 2) = true := bne_iff_ne.mpr c23
       obtain rfl := Option.some.inj H
       obtain ⟨hcz27_0, hcz27_1, hcz27_2, hcz27_3, hcz27_4⟩ := bC5 BK152.out
       obtain ⟨hfz27_0, hfz27_1, hfz27_2, hfz27_3, hfz27_4⟩ := bF5 BK152.out
       go_wp2
       go_ret
       exact ⟨by first | rfl | (simp [errW_none, errW_some] <;> rfl) | (simp [*, errW_none, errW_some] <;> rfl), by repeat (first | (with_reducible first | exact HB.out | apply below_alloc | apply pw_below_drewN | apply below_drew1 | refine below_set ?_ GE152.out) | exact HB.out)⟩
end Go.Proofs.YtjfknmlchdifjaaGreatDoorQ.P
