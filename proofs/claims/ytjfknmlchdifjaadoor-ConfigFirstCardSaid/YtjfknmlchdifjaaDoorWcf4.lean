/- Part 4 of a proof: contracts and plain laws of what the statement reaches. No condition. -/
import Derived.Test.YtjfknmlchdifjaaDoorWcf1
set_option linter.unusedVariables false
set_option linter.unusedSimpArgs false
namespace Go.Proofs.YtjfknmlchdifjaaDoorQ.P
open Go.RowKit Go.Proofs.YtjfknmlchdifjaaDoorW.PrintWords Go.Proofs.YtjfknmlchdifjaaDoorW.PrintLast Go.Proofs.YtjfknmlchdifjaaDoorW.PrintMore
attribute [local go_sem] max2_int min2_int max_two min_two max_three min_three max_four min_four
def foghornref13_Lines.l0 : Nat → ByteArray → List ByteArray → Int → Int → Option (List ByteArray)
 | 0, _, _, _, _ => none
 | k + 1, x0, x3, x4, x5 => if x5 < (x0.size : Int) then (if 0 ≤ x5 then (if (bt x0 x5) = 10 then (if 0 ≤ x4 then (if x4 ≤ x5 then (if x5 ≤ (x0.size : Int) then (if x3.length < 8796093022208 then (foghornref13_Lines.l0 k x0 (x3 ++ [x0.extract (x4 : Int).toNat (x5 : Int).toNat]) (wrap64 (x5 + 1)) (wrap64 (x5 + 1))) else (none)) else (none)) else (none)) else (none)) else (foghornref13_Lines.l0 k x0 x3 x4 (wrap64 (x5 + 1)))) else (none)) else (if x4 < (x0.size : Int) then (if 0 ≤ x4 then (if x4 ≤ (x0.size : Int) then (if x3.length < 8796093022208 then (some (x3 ++ [x0.extract (x4 : Int).toNat x0.size])) else (none)) else (none)) else (none)) else (some x3))
def foghornref13_Lines.f (k : Nat) (a0 : ByteArray) : Option (List ByteArray) := foghornref13_Lines.l0 k a0 (([] : List ByteArray)) 0 0
set_option maxHeartbeats 8000000 in
set_option maxRecDepth 100000 in
theorem foghornref13_Lines.calls (k : Nat) (a0 : ByteArray) (r : List ByteArray) (w : World) (h : foghornref13_Lines.f k a0 = some r) :
  Calls Tryd.prog 6 #[.string a0] w fun e w' => ∃ v0_ : Value, e = .returned (v0_) ∧ Kd.R Kd.string 9 w' w.heap.size (fun _ => True) v0_ r ∧ Below w.heap.size w w' := by
 have HB := aA (Below.refl w.heap.size w)
 have H : (foghornref13_Lines.l0 k a0 (([] : List ByteArray)) 0 0) = some r := h
 clear h
 obtain ⟨y114, hy114⟩ : ∃ y_ : List ByteArray, y_ = (([] : List ByteArray)) := ⟨_, rfl⟩
 replace H : (foghornref13_Lines.l0 k a0 y114 0 0) = some r := by first | (rw [hy114]; with_reducible exact H) | (have H2_ := (Option.bind_some _ _).symm.trans H; rw [hy114]; with_reducible exact H2_) | (have H2_ := (Option.bind_some _ _).symm.trans H; with_reducible exact H2_) | with_reducible exact H | (rw [hy114]; exact H) | exact H
 have Ny114 := aA hy114
 clear hy114
 have H' := aA H
 clear H
 go_enter Tryd.func6, Tryd.ntmps6
 go_wp2_with (first | ((with_reducible refine gate_dst (N := 6) rfl ?_); refine Kd.R_lit Kd.string _ 9 ?hg (N := 6) ?hd (xs := ([] : List ByteArray)) (inner := []) (ok := fun _ => True) (okp := fun _ => True) ?hr ?hp (fun _ hk => hk) trivial (Below.refl _ _) (Nat.le_refl _) (by simp) ?_; (case hd => rfl); (case hg => rfl); (case hr => first | (go_simp; done) | (go_simp; rfl)); (case hp => exact (Reps.none _ _)); intro v115 w2 ho3 hb hg_ hnew_; clear hg_ hnew_; (first | rw [← Ny114.out] at ho3 | (simp only [Int.reduceToNat] at ho3; rw [← Ny114.out] at ho3)); have n0_ := aA (Kd.R_lower ho3 (below_size mB)); have n1_ := aA (below_step mB hb); clear HB; have HO116 := n0_; have HB := n1_; clear n0_ n1_ hb ho3))
 go_loopg [3, 4, 5] k (fun kq v3 v4 v5 w' => ∃ (x3_1 : List ByteArray) (x4_1 : Int) (x5_1 : Int), v4 = .int .i64 x4_1 ∧ v5 = .int .i64 x5_1 ∧ Aside0 (foghornref13_Lines.l0 kq a0 x3_1 x4_1 x5_1 = some r) ∧ Aside0 (kq ≤ k) ∧ Aside0 (Kd.R Kd.string 9 w' w.heap.size (fun _ => True) v3 x3_1) ∧ Aside0 (Below w.heap.size w w'))
 case atStart => exact ⟨(y114), (0), (0), (by first | rfl | (simp; done) | (simp [*]; done)), (by first | rfl | (simp; done) | (simp [*]; done)), H', ⟨Nat.le_refl _⟩, ⟨by (with_reducible repeat (first | apply Kd.R_alloc | apply Kd.R_drewN | apply Kd.R_drew)); exact HO116.out⟩, ⟨by repeat (first | (with_reducible first | exact HB.out | apply below_alloc | apply pw_below_drewN | apply below_drew1) | exact HB.out)⟩⟩
 case round =>
  clear H'
  try clear p2
  obtain ⟨x3_1, x4_1, x5_1, rfl, rfl, HA, HK1, HO_3, HB⟩ := hrel
  cases gk with
  | zero => exact absurd HA.out (by simp [foghornref13_Lines.l0])
  | succ k1 =>
   have H := HA.out
   clear HA
   simp only [foghornref13_Lines.l0] at H
   by_cases c4 : x5_1 < (a0.size : Int)
   ·rw [if_pos c4] at H
    have c4b0 : decide (x5_1 < (a0.size : Int)) = true := decide_eq_true c4
    clear c4
    by_cases c5 : 0 ≤ x5_1
    ·rw [if_pos c5] at H
     have c5b0 : decide (0 ≤ x5_1) = true := decide_eq_true c5
     clear c5
     by_cases c7 : (bt a0 x5_1) = 10
     ·rw [if_pos c7] at H
      have c7b0 : ((bt a0 x5_1) == 10) = true := beq_iff_eq.mpr c7
      have c7b1 : ((bt a0 x5_1) != 10) = false := bne_eq_false_iff_eq.mpr c7
      clear c7
      by_cases c8 : 0 ≤ x4_1
      ·rw [if_pos c8] at H
       have c8b0 := eq_true c8
       have c8b1 := decide_eq_true c8
       clear c8
       by_cases c9 : x4_1 ≤ x5_1
       ·rw [if_pos c9] at H
        have c9b0 := eq_true c9
        have c9b1 := decide_eq_true c9
        clear c9
        by_cases c10 : x5_1 ≤ (a0.size : Int)
        ·rw [if_pos c10] at H
         have c10b0 := eq_true c10
         have c10b1 := decide_eq_true c10
         clear c10
         by_cases c11 : x3_1.length < 8796093022208
         ·rw [if_pos c11] at H
          have LMc11 := aA c11
          clear c11
          obtain ⟨y117, hy117⟩ : ∃ y_ : List ByteArray, y_ = (x3_1 ++ [a0.extract (x4_1 : Int).toNat (x5_1 : Int).toNat]) := ⟨_, rfl⟩
          replace H : (foghornref13_Lines.l0 k1 a0 y117 (wrap64 (x5_1 + 1)) (wrap64 (x5_1 + 1))) = some r := by first | (rw [hy117]; with_reducible exact H) | (have H2_ := (Option.bind_some _ _).symm.trans H; rw [hy117]; with_reducible exact H2_) | (have H2_ := (Option.bind_some _ _).symm.trans H; with_reducible exact H2_) | with_reducible exact H | (rw [hy117]; exact H) | exact H
          have Ny117 := aA hy117
          clear hy117
          have H' := aA H
          clear H
          have p6 : 0 ≤ (x5_1 : Int) := of_decide_eq_true (by first | (with_reducible assumption) | assumption)
          have q6 : x5_1 < (a0.size : Int) := of_decide_eq_true (by first | (with_reducible assumption) | assumption)
          have hx6 := bt_at a0 x5_1
          replace p6 := eq_true p6
          replace q6 := eq_true q6
          go_wp2_with (first | ((with_reducible refine gate_builtin (b := .append) (xs := #[.tmp 17, .tmp 22]) rfl ?_); at_builtin; refine Kd.R_append Kd.string (w0 := w) w.heap.size rfl (.tmp 17) (.tmp 22) 30 9 (.string ⟨#[]⟩) 16 rfl Tryd.underlying30 info9 rfl (by decide) (by omega) u3 x3_1 (a0.extract (x4_1 : Int).toNat (x5_1 : Int).toNat) [.string (a0.extract (x4_1 : Int).toNat (x5_1 : Int).toNat)] (fun _ => True) (fun _ => False) rfl rfl ?aP (fun _ hk => hk.elim) ?aF ?aO ?aB ?aS ?aL ?_; (case aP => exact rfl); (case aB => exact mB); (case aF => exact (fun _ _ => trivial)); (case aO => exact (mR HO_3.out)); (case aS => exact (below_size mB)); (case aL => have := LMc11.out; omega); intro v118 w12 ho hb hg hat; rw [← Ny117.out] at ho; have n0_ := aA (hb); have n1_ := aA (ho); clear HB HO_3; have HB := n0_; have HO119 := n1_; clear n0_ n1_ ho hb hg hat))
          go_roundg k1
          case measure => have := HK1.out; omega
          case rel => exact ⟨(y117), (wrap64 (x5_1 + 1)), (wrap64 (x5_1 + 1)), (by first | rfl | (simp; done) | (simp [*]; done)), (by first | rfl | (simp; done) | (simp [*]; done)), H', ⟨by have := HK1.out; omega⟩, ⟨by (with_reducible repeat (first | apply Kd.R_alloc | apply Kd.R_drewN | apply Kd.R_drew)); exact HO119.out⟩, ⟨by repeat (first | (with_reducible first | exact HB.out | apply below_alloc | apply pw_below_drewN | apply below_drew1) | exact HB.out)⟩⟩
         ·rw [if_neg c11] at H
          exact absurd H (by simp)
        ·rw [if_neg c10] at H
         exact absurd H (by simp)
       ·rw [if_neg c9] at H
        exact absurd H (by simp)
      ·rw [if_neg c8] at H
       exact absurd H (by simp)
     ·rw [if_neg c7] at H
      have c7b0 : ((bt a0 x5_1) == 10) = false := beq_eq_false_iff_ne.mpr c7
      have c7b1 : ((bt a0 x5_1) != 10) = true := bne_iff_ne.mpr c7
      have H' := aA H
      clear H
      have p6 : 0 ≤ (x5_1 : Int) := of_decide_eq_true (by first | (with_reducible assumption) | assumption)
      have q6 : x5_1 < (a0.size : Int) := of_decide_eq_true (by first | (with_reducible assumption) | assumption)
      have hx6 := bt_at a0 x5_1
      replace p6 := eq_true p6
      replace q6 := eq_true q6
      go_wp2
      go_roundg k1
      case measure => have := HK1.out; omega
      case rel => exact ⟨(x3_1), (x4_1), (wrap64 (x5_1 + 1)), (by first | rfl | (simp; done) | (simp [*]; done)), (by first | rfl | (simp; done) | (simp [*]; done)), H', ⟨by have := HK1.out; omega⟩, ⟨by (with_reducible repeat (first | apply Kd.R_alloc | apply Kd.R_drewN | apply Kd.R_drew)); exact HO_3.out⟩, ⟨by repeat (first | (with_reducible first | exact HB.out | apply below_alloc | apply pw_below_drewN | apply below_drew1) | exact HB.out)⟩⟩
    ·rw [if_neg c5] at H
     exact absurd H (by simp)
   ·rw [if_neg c4] at H
    have c4b0 : decide (x5_1 < (a0.size : Int)) = false := decide_eq_false c4
    clear c4
    by_cases c13 : x4_1 < (a0.size : Int)
    ·rw [if_pos c13] at H
     have c13b0 : decide (x4_1 < (a0.size : Int)) = true := decide_eq_true c13
     clear c13
     by_cases c14 : 0 ≤ x4_1
     ·rw [if_pos c14] at H
      have c14b0 := eq_true c14
      have c14b1 := decide_eq_true c14
      clear c14
      by_cases c15 : x4_1 ≤ (a0.size : Int)
      ·rw [if_pos c15] at H
       have c15b0 := eq_true c15
       have c15b1 := decide_eq_true c15
       clear c15
       by_cases c16 : x3_1.length < 8796093022208
       ·rw [if_pos c16] at H
        have LMc16 := aA c16
        clear c16
        obtain ⟨y120, hy120⟩ : ∃ y_ : List ByteArray, y_ = (x3_1 ++ [a0.extract (x4_1 : Int).toNat a0.size]) := ⟨_, rfl⟩
        replace H : (some y120) = some r := by first | (rw [hy120]; with_reducible exact H) | (have H2_ := (Option.bind_some _ _).symm.trans H; rw [hy120]; with_reducible exact H2_) | (have H2_ := (Option.bind_some _ _).symm.trans H; with_reducible exact H2_) | with_reducible exact H | (rw [hy120]; exact H) | exact H
        have Ny120 := aA hy120
        clear hy120
        obtain rfl := Option.some.inj H
        go_wp2_with (first | ((with_reducible refine gate_builtin (b := .append) (xs := #[.tmp 30, .tmp 34]) rfl ?_); at_builtin; refine Kd.R_append Kd.string (w0 := w) w.heap.size rfl (.tmp 30) (.tmp 34) 30 9 (.string ⟨#[]⟩) 16 rfl Tryd.underlying30 info9 rfl (by decide) (by omega) u3 x3_1 (a0.extract (x4_1 : Int).toNat a0.size) [.string (a0.extract (x4_1 : Int).toNat a0.size)] (fun _ => True) (fun _ => False) rfl rfl ?aP (fun _ hk => hk.elim) ?aF ?aO ?aB ?aS ?aL ?_; (case aP => exact rfl); (case aB => exact mB); (case aF => exact (fun _ _ => trivial)); (case aO => exact (mR HO_3.out)); (case aS => exact (below_size mB)); (case aL => have := LMc16.out; omega); intro v121 w17 ho hb hg hat; rw [← Ny120.out] at ho; have n0_ := aA (hb); have n1_ := aA (ho); clear HB HO_3; have HB := n0_; have HO122 := n1_; clear n0_ n1_ ho hb hg hat))
        go_ret
        exact ⟨_, by first | rfl | (simp [errW_none, errW_some] <;> rfl) | (simp [*, errW_none, errW_some] <;> rfl), by (with_reducible repeat (first | apply Kd.R_alloc | apply Kd.R_drewN | apply Kd.R_drew)); exact HO122.out, by repeat (first | (with_reducible first | exact HB.out | apply below_alloc | apply pw_below_drewN | apply below_drew1) | exact HB.out)⟩
       ·rw [if_neg c16] at H
        exact absurd H (by simp)
      ·rw [if_neg c15] at H
       exact absurd H (by simp)
     ·rw [if_neg c14] at H
      exact absurd H (by simp)
    ·rw [if_neg c13] at H
     have c13b0 : decide (x4_1 < (a0.size : Int)) = false := decide_eq_false c13
     clear c13
     obtain rfl := Option.some.inj H
     go_wp2
     go_ret
     exact ⟨_, by first | rfl | (simp [errW_none, errW_some] <;> rfl) | (simp [*, errW_none, errW_some] <;> rfl), by (with_reducible repeat (first | apply Kd.R_alloc | apply Kd.R_drewN | apply Kd.R_drew)); exact HO_3.out, by repeat (first | (with_reducible first | exact HB.out | apply below_alloc | apply pw_below_drewN | apply below_drew1) | exact HB.out)⟩
end Go.Proofs.YtjfknmlchdifjaaDoorQ.P
namespace Go.Proofs.YtjfknmlchdifjaaDoorQ.P
open Go.RowKit Go.Proofs.YtjfknmlchdifjaaDoorW.PrintWords Go.Proofs.YtjfknmlchdifjaaDoorW.PrintLast Go.Proofs.YtjfknmlchdifjaaDoorW.PrintMore
attribute [local go_sem] max2_int min2_int max_two min_two max_three min_three max_four min_four
theorem eqA41 (d : Nat) (w : World) (x0 y0 : Int) (x1 y1 : Int) (x2 y2 : Int) :
  (Op.equalIn (d + 2) 41 (.agg #[.int .i64 x0, .int .i64 x1, .int .i64 x2]) (.agg #[.int .i64 y0, .int .i64 y1, .int .i64 y2])).run Tryd.prog w = .ok (x0 == y0 && (x1 == y1 && (x2 == y2))) w := by
 refine eqA_of Tryd.underlying41 (by kernel_rfl) ?_
 refine eqf_cons (by rfl) (by go_simp; rfl) (by go_simp; rfl) (by go_simp) ?_
 refine eqf_cons (by rfl) (by go_simp; rfl) (by go_simp; rfl) (by go_simp) ?_
 exact eqf_last (by rfl) (by go_simp; rfl) (by go_simp; rfl) (by go_simp)
theorem eqA43 (d : Nat) (w : World) (x0 y0 : ByteArray) (x1 y1 : Int) (x2 y2 : Int) (x3 y3 : Int) (x4 y4 : Int) (x5 y5 : Int) (x6 y6 : Int) (x7 y7 : Int) (x8 y8 : Int) :
  (Op.equalIn (d + 3) 43 (.agg #[.string x0, .int .i64 x1, .int .i64 x2, .int .i64 x3, .int .i64 x4, .int .i64 x5, .int .i64 x6, .int .i64 x7, .int .i64 x8]) (.agg #[.string y0, .int .i64 y1, .int .i64 y2, .int .i64 y3, .int .i64 y4, .int .i64 y5, .int .i64 y6, .int .i64 y7, .int .i64 y8])).run Tryd.prog w = .ok (x0.toList == y0.toList && ((x1 == y1 && (x2 == y2 && (x3 == y3))) && (x4 == y4 && (x5 == y5 && (x6 == y6 && (x7 == y7 && (x8 == y8))))))) w := by
 refine eqA_of Tryd.underlying43 (by kernel_rfl) ?_
 refine eqf_cons (by rfl) (by go_simp; rfl) (by go_simp; rfl) (by go_simp) ?_
 refine eqf_cons (by rfl) (by go_simp) (by go_simp) (eqA41 (d + 0) w _ _ _ _ _ _) ?_
 refine eqf_cons (by rfl) (by go_simp; rfl) (by go_simp; rfl) (by go_simp) ?_
 refine eqf_cons (by rfl) (by go_simp; rfl) (by go_simp; rfl) (by go_simp) ?_
 refine eqf_cons (by rfl) (by go_simp; rfl) (by go_simp; rfl) (by go_simp) ?_
 refine eqf_cons (by rfl) (by go_simp; rfl) (by go_simp; rfl) (by go_simp) ?_
 exact eqf_last (by rfl) (by go_simp; rfl) (by go_simp; rfl) (by go_simp)
end Go.Proofs.YtjfknmlchdifjaaDoorQ.P
namespace Go.Proofs.YtjfknmlchdifjaaDoorQ.P
open Go.RowKit Go.Proofs.YtjfknmlchdifjaaDoorW.PrintWords Go.Proofs.YtjfknmlchdifjaaDoorW.PrintLast Go.Proofs.YtjfknmlchdifjaaDoorW.PrintMore
attribute [local go_sem] max2_int min2_int max_two min_two max_three min_three max_four min_four
theorem eqA55 (d : Nat) (w : World) (x0 y0 : Int) (x1 y1 : ByteArray) (x2 y2 : ByteArray) :
  (Op.equalIn (d + 2) 55 (.agg #[.int .i64 x0, .string x1, .string x2]) (.agg #[.int .i64 y0, .string y1, .string y2])).run Tryd.prog w = .ok (x0 == y0 && (x1.toList == y1.toList && (x2.toList == y2.toList))) w := by
 refine eqA_of Tryd.underlying55 (by kernel_rfl) ?_
 refine eqf_cons (by rfl) (by go_simp; rfl) (by go_simp; rfl) (by go_simp) ?_
 refine eqf_cons (by rfl) (by go_simp; rfl) (by go_simp; rfl) (by go_simp) ?_
 exact eqf_last (by rfl) (by go_simp; rfl) (by go_simp; rfl) (by go_simp)
end Go.Proofs.YtjfknmlchdifjaaDoorQ.P
namespace Go.Proofs.YtjfknmlchdifjaaDoorQ.P
open Go.RowKit Go.Proofs.YtjfknmlchdifjaaDoorW.PrintWords Go.Proofs.YtjfknmlchdifjaaDoorW.PrintLast Go.Proofs.YtjfknmlchdifjaaDoorW.PrintMore
attribute [local go_sem] max2_int min2_int max_two min_two max_three min_three max_four min_four
attribute [local go_sem high] eqA55
def foghornref10_Asked.l0 : Nat → List (S55) → List (S55) → Int → Int → Option (Bool)
 | 0, _, _, _, _ => none
 | k + 1, x0, x1, x12, x13 => if x13 < x12 then (if 0 ≤ x13 then (if x13 < (x0.length : Int) then (if x13 < (x1.length : Int) then (if (!(((rd_T55 x0 x13).f0) == ((rd_T55 x1 x13).f0)) || (!((((rd_T55 x0 x13).f1).toList) == (((rd_T55 x1 x13).f1).toList)) || (!((((rd_T55 x0 x13).f2).toList) == (((rd_T55 x1 x13).f2).toList))))) = true then (some false) else (foghornref10_Asked.l0 k x0 x1 x12 (wrap64 (x13 + 1)))) else (none)) else (none)) else (none)) else (some true)
def foghornref10_Asked.f (k : Nat) (l0 : List (S55)) (l1 : List (S55)) : Option (Bool) := if (l0.length : Int) = (l1.length : Int) then (foghornref10_Asked.l0 k l0 l1 (l0.length : Int) 0) else (some false)
set_option maxHeartbeats 8000000 in
set_option maxRecDepth 100000 in
theorem foghornref10_Asked.calls (k : Nat) (A0 : Option Addr) (c0 : Nat) (l0 : List (S55)) (A1 : Option Addr) (c1 : Nat) (l1 : List (S55)) (r : Bool) (w : World) (hr0 : Kd.C k55 w A0 l0.length l0) (hc0 : l0.length ≤ c0) (hr1 : Kd.C k55 w A1 l1.length l1) (hc1 : l1.length ≤ c1) (h : foghornref10_Asked.f k l0 l1 = some r) :
  Calls Tryd.prog 11 #[.slice A0 l0.length c0, .slice A1 l1.length c1] w fun e w' => e = .returned (.bool r) ∧ Drawn0 w w' := by
 have hu55 := Tryd.underlying55
 have HR0 := aA hr0
 have HC0 := aA hc0
 clear hr0 hc0
 have HR1 := aA hr1
 have HC1 := aA hc1
 clear hr1 hc1
 have H : (if (l0.length : Int) = (l1.length : Int) then (foghornref10_Asked.l0 k l0 l1 (l0.length : Int) 0) else (some false)) = some r := h
 clear h
 by_cases c3 : (l0.length : Int) = (l1.length : Int)
 ·rw [if_pos c3] at H
  have c3b0 : ((l0.length : Int) == (l1.length : Int)) = true := beq_iff_eq.mpr c3
  have c3b1 : ((l0.length : Int) != (l1.length : Int)) = false := bne_eq_false_iff_eq.mpr c3
  have c3b2 : (l0.length == l1.length) = true := by first | simpa using c3 | (simp at c3 ⊢; omega)
  clear c3
  have H' := aA H
  clear H
  go_enter Tryd.func11, Tryd.ntmps11
  go_wp2
  repeat (go_quiet (fail); try go_wp2)
  go_loopg [13] k (fun kq v13 w' => ∃ (x13_1 : Int), v13 = .int .i64 x13_1 ∧ Aside0 (foghornref10_Asked.l0 kq l0 l1 (l0.length : Int) x13_1 = some r) ∧ Aside0 (kq ≤ k) ∧ Drawn0 w w')
  case atStart => exact ⟨(0), (by first | rfl | (simp; done) | (simp [*]; done)), H', ⟨Nat.le_refl _⟩, by repeat (first | exact Drawn0.refl _ | apply Drawn0.step)⟩
  case round =>
   clear H'
   try clear c1
   try clear p2
   try clear c3
   try clear c3b0
   try clear c3b1
   try clear c3b2
   obtain ⟨x13_1, rfl, HA, HK1, ⟨m1, rfl⟩⟩ := hrel
   cases gk with
   | zero => exact absurd HA.out (by simp [foghornref10_Asked.l0])
   | succ k1 =>
    have H := HA.out
    clear HA
    simp only [foghornref10_Asked.l0] at H
    by_cases c4 : x13_1 < (l0.length : Int)
    ·rw [if_pos c4] at H
     have c4b0 : decide (x13_1 < (l0.length : Int)) = true := decide_eq_true c4
     clear c4
     by_cases c5 : 0 ≤ x13_1
     ·rw [if_pos c5] at H
      have c5b0 : decide (0 ≤ x13_1) = true := decide_eq_true c5
      clear c5
      by_cases c6 : x13_1 < (l0.length : Int)
      ·rw [if_pos c6] at H
       have c6b0 : decide (x13_1 < (l0.length : Int)) = true := decide_eq_true c6
       clear c6
       by_cases c7 : x13_1 < (l1.length : Int)
       ·rw [if_pos c7] at H
        have c7b0 : decide (x13_1 < (l1.length : Int)) = true := decide_eq_true c7
        clear c7
        by_cases c8 : (!(((rd_T55 l0 x13_1).f0) == ((rd_T55 l1 x13_1).f0)) || (!((((rd_T55 l0 x13_1).f1).toList) == (((rd_T55 l1 x13_1).f1).toList)) || (!((((rd_T55 l0 x13_1).f2).toList) == (((rd_T55 l1 x13_1).f2).toList))))) = true
        ·rw [if_pos c8] at H
         have c8b0 : (!(((rd_T55 l0 x13_1).f0) == ((rd_T55 l1 x13_1).f0)) || (!((((rd_T55 l0 x13_1).f1).toList) == (((rd_T55 l1 x13_1).f1).toList)) || (!((((rd_T55 l0 x13_1).f2).toList) == (((rd_T55 l1 x13_1).f2).toList))))) = true := c8
         clear c8
         obtain rfl := Option.some.inj H
         have p123 : 0 ≤ (x13_1 : Int) := of_decide_eq_true (by first | (with_reducible assumption) | assumption)
         have q123 : x13_1 < (l0.length : Int) := of_decide_eq_true (by first | (with_reducible assumption) | assumption)
         obtain ⟨ad123, e123, hx123_0, hx123_1, hx123_2⟩ := at_T55 HR0.out x13_1 p123 q123
         cases e123
         replace p123 := eq_true p123
         replace q123 := eq_true q123
         have p124 : 0 ≤ (x13_1 : Int) := of_decide_eq_true (by first | (with_reducible assumption) | assumption)
         have q124 : x13_1 < (l1.length : Int) := of_decide_eq_true (by first | (with_reducible assumption) | assumption)
         obtain ⟨ad124, e124, hx124_0, hx124_1, hx124_2⟩ := at_T55 HR1.out x13_1 p124 q124
         cases e124
         replace p124 := eq_true p124
         replace q124 := eq_true q124
         go_wp2
         repeat (go_quiet (fail); try go_wp2)
         go_ret
         exact ⟨by first | rfl | (simp; done) | (simp [*]; done), by repeat (first | exact Drawn0.refl _ | apply Drawn0.step)⟩
        ·rw [if_neg c8] at H
         have c8b0 : (!(((rd_T55 l0 x13_1).f0) == ((rd_T55 l1 x13_1).f0)) || (!((((rd_T55 l0 x13_1).f1).toList) == (((rd_T55 l1 x13_1).f1).toList)) || (!((((rd_T55 l0 x13_1).f2).toList) == (((rd_T55 l1 x13_1).f2).toList))))) = false := by simpa using c8
         clear c8
         have H' := aA H
         clear H
         have p123 : 0 ≤ (x13_1 : Int) := of_decide_eq_true (by first | (with_reducible assumption) | assumption)
         have q123 : x13_1 < (l0.length : Int) := of_decide_eq_true (by first | (with_reducible assumption) | assumption)
         obtain ⟨ad123, e123, hx123_0, hx123_1, hx123_2⟩ := at_T55 HR0.out x13_1 p123 q123
         cases e123
         replace p123 := eq_true p123
         replace q123 := eq_true q123
         have p124 : 0 ≤ (x13_1 : Int) := of_decide_eq_true (by first | (with_reducible assumption) | assumption)
         have q124 : x13_1 < (l1.length : Int) := of_decide_eq_true (by first | (with_reducible assumption) | assumption)
         obtain ⟨ad124, e124, hx124_0, hx124_1, hx124_2⟩ := at_T55 HR1.out x13_1 p124 q124
         cases e124
         replace p124 := eq_true p124
         replace q124 := eq_true q124
         go_wp2
         repeat (go_quiet (fail); try go_wp2)
         go_roundg k1
         case measure => have := HK1.out; omega
         case rel => exact ⟨(wrap64 (x13_1 + 1)), (by first | rfl | (simp; done) | (simp [*]; done)), H', ⟨by have := HK1.out; omega⟩, by repeat (first | exact Drawn0.refl _ | apply Drawn0.step)⟩
       ·rw [if_neg c7] at H
        exact absurd H (by simp)
      ·rw [if_neg c6] at H
       exact absurd H (by simp)
     ·rw [if_neg c5] at H
      exact absurd H (by simp)
    ·rw [if_neg c4] at H
     have c4b0 : decide (x13_1 < (l0.length : Int)) = false := decide_eq_false c4
     clear c4
     obtain rfl := Option.some.inj H
     go_wp2
     repeat (go_quiet (fail); try go_wp2)
     go_ret
     exact ⟨by first | rfl | (simp; done) | (simp [*]; done), by repeat (first | exact Drawn0.refl _ | apply Drawn0.step)⟩
 ·rw [if_neg c3] at H
  have c3b0 : ((l0.length : Int) == (l1.length : Int)) = false := beq_eq_false_iff_ne.mpr c3
  have c3b1 : ((l0.length : Int) != (l1.length : Int)) = true := bne_iff_ne.mpr c3
  have c3b2 : (l0.length == l1.length) = false := by first | simpa using c3 | (simp at c3 ⊢; omega)
  obtain rfl := Option.some.inj H
  go_enter Tryd.func11, Tryd.ntmps11
  go_wp2
  repeat (go_quiet (fail); try go_wp2)
  go_ret
  exact ⟨by first | rfl | (simp; done) | (simp [*]; done), by repeat (first | exact Drawn0.refl _ | apply Drawn0.step)⟩
end Go.Proofs.YtjfknmlchdifjaaDoorQ.P
namespace Go.Proofs.YtjfknmlchdifjaaDoorQ.P
open Go.RowKit Go.Proofs.YtjfknmlchdifjaaDoorW.PrintWords Go.Proofs.YtjfknmlchdifjaaDoorW.PrintLast Go.Proofs.YtjfknmlchdifjaaDoorW.PrintMore
attribute [local go_sem] max2_int min2_int max_two min_two max_three min_three max_four min_four
attribute [local go_sem high] eqA43
mutual
def foghornref13_Same.j0 : Nat → Bool → List (S43) → List (S47) → Int → Int → List (S43) → List (S47) → Int → Int → Option (Bool)
 | 0, _, _, _, _, _, _, _, _, _ => none
 | k + 1, x39, x126000, x126001, x126002, x126003, x127000, x127001, x127002, x127003 => if x39 = true then (some false) else (foghornref13_Same.l0 k (x126000.length : Int) 0 x126000 x126001 x126002 x126003 x127000 x127001 x127002 x127003)
def foghornref13_Same.l0 : Nat → Int → Int → List (S43) → List (S47) → Int → Int → List (S43) → List (S47) → Int → Int → Option (Bool)
 | 0, _, _, _, _, _, _, _, _, _, _ => none
 | k + 1, x42, x43, x126000, x126001, x126002, x126003, x127000, x127001, x127002, x127003 => if x43 < x42 then (if 0 ≤ x43 then (if x43 < (x126000.length : Int) then (if x43 < (x127000.length : Int) then (if (!((((rd_T43 x126000 x43).f0).toList) == (((rd_T43 x127000 x43).f0).toList)) || ((!(((rd_T43 x126000 x43).f1.f0) == ((rd_T43 x127000 x43).f1.f0)) || (!(((rd_T43 x126000 x43).f1.f1) == ((rd_T43 x127000 x43).f1.f1)) || (!(((rd_T43 x126000 x43).f1.f2) == ((rd_T43 x127000 x43).f1.f2))))) || (!(((rd_T43 x126000 x43).f2) == ((rd_T43 x127000 x43).f2)) || (!(((rd_T43 x126000 x43).f3) == ((rd_T43 x127000 x43).f3)) || (!(((rd_T43 x126000 x43).f4) == ((rd_T43 x127000 x43).f4)) || (!(((rd_T43 x126000 x43).f5) == ((rd_T43 x127000 x43).f5)) || (!(((rd_T43 x126000 x43).f6) == ((rd_T43 x127000 x43).f6))))))))) = true then (some false) else (foghornref13_Same.l0 k x42 (wrap64 (x43 + 1)) x126000 x126001 x126002 x126003 x127000 x127001 x127002 x127003)) else (none)) else (none)) else (none)) else (foghornref13_Same.l1 k x126001 (x126001.length : Int) 0 x127000 x127001 x127002 x127003)
def foghornref13_Same.l1 : Nat → List (S47) → Int → Int → List (S43) → List (S47) → Int → Int → Option (Bool)
 | 0, _, _, _, _, _, _, _ => none
 | k + 1, x59, x60, x61, x127000, x127001, x127002, x127003 => if x61 < x60 then (if 0 ≤ x61 then (if x61 < (x59.length : Int) then (if x61 < (x127001.length : Int) then ((foghornref10_Asked.f k ((rd_T47 x59 x61).f1) ((rd_T47 x127001 x61).f1)).bind fun t133 => (if t133 = true then (foghornref13_Same.j3 k x59 x60 x61 ((((rd_T47 x59 x61).f0).length : Int) != (((rd_T47 x127001 x61).f0).length : Int)) x127000 x127001 x127002 x127003 ((rd_T47 x59 x61).f0) ((rd_T47 x59 x61).f1) ((rd_T47 x127001 x61).f0) ((rd_T47 x127001 x61).f1)) else (foghornref13_Same.j3 k x59 x60 x61 true x127000 x127001 x127002 x127003 ((rd_T47 x59 x61).f0) ((rd_T47 x59 x61).f1) ((rd_T47 x127001 x61).f0) ((rd_T47 x127001 x61).f1)))) else (none)) else (none)) else (none)) else (some true)
def foghornref13_Same.j3 : Nat → List (S47) → Int → Int → Bool → List (S43) → List (S47) → Int → Int → List Int → List (S55) → List Int → List (S55) → Option (Bool)
 | 0, _, _, _, _, _, _, _, _, _, _, _, _ => none
 | k + 1, x59, x60, x61, x85, x127000, x127001, x127002, x127003, x131000, x131001, x133000, x133001 => if x85 = true then (some false) else (foghornref13_Same.l2 k x59 x60 x61 (x131000.length : Int) 0 x127000 x127001 x127002 x127003 x131000 x131001 x133000 x133001)
def foghornref13_Same.l2 : Nat → List (S47) → Int → Int → Int → Int → List (S43) → List (S47) → Int → Int → List Int → List (S55) → List Int → List (S55) → Option (Bool)
 | 0, _, _, _, _, _, _, _, _, _, _, _, _, _ => none
 | k + 1, x59, x60, x61, x88, x89, x127000, x127001, x127002, x127003, x131000, x131001, x133000, x133001 => if x89 < x88 then (if 0 ≤ x89 then (if x89 < (x131000.length : Int) then (if x89 < (x133000.length : Int) then (if (rd x131000 x89) = (rd x133000 x89) then (foghornref13_Same.l2 k x59 x60 x61 x88 (wrap64 (x89 + 1)) x127000 x127001 x127002 x127003 x131000 x131001 x133000 x133001) else (some false)) else (none)) else (none)) else (none)) else (foghornref13_Same.l1 k x59 x60 (wrap64 (x61 + 1)) x127000 x127001 x127002 x127003)
end
def foghornref13_Same.f (k : Nat) (l0_0 : List (S43)) (l0_1 : List (S47)) (a0_2 : Int) (a0_3 : Int) (l1_0 : List (S43)) (l1_1 : List (S47)) (a1_2 : Int) (a1_3 : Int) : Option (Bool) := if (l0_0.length : Int) = (l1_0.length : Int) then (if (l0_1.length : Int) = (l1_1.length : Int) then (if a0_2 = a1_2 then (foghornref13_Same.j0 k (a0_3 != a1_3) l0_0 l0_1 a0_2 a0_3 l1_0 l1_1 a1_2 a1_3) else (foghornref13_Same.j0 k true l0_0 l0_1 a0_2 a0_3 l1_0 l1_1 a1_2 a1_3)) else (foghornref13_Same.j0 k true l0_0 l0_1 a0_2 a0_3 l1_0 l1_1 a1_2 a1_3)) else (foghornref13_Same.j0 k true l0_0 l0_1 a0_2 a0_3 l1_0 l1_1 a1_2 a1_3)
set_option maxHeartbeats 8000000 in
set_option maxRecDepth 100000 in
theorem foghornref13_Same.calls (k : Nat) (A0_0 : Option Addr) (c0_0 : Nat) (l0_0 : List (S43)) (A0_1 : Option Addr) (c0_1 : Nat) (l0_1 : List (S47)) (a0_2 : Int) (a0_3 : Int) (A1_0 : Option Addr) (c1_0 : Nat) (l1_0 : List (S43)) (A1_1 : Option Addr) (c1_1 : Nat) (l1_1 : List (S47)) (a1_2 : Int) (a1_3 : Int) (r : Bool) (w : World) (hr0_0 : Kd.C k43 w A0_0 l0_0.length l0_0) (hc0_0 : l0_0.length ≤ c0_0) (hr0_1 : Kd.C k47 w A0_1 l0_1.length l0_1) (hc0_1 : l0_1.length ≤ c0_1) (hr1_0 : Kd.C k43 w A1_0 l1_0.length l1_0) (hc1_0 : l1_0.length ≤ c1_0) (hr1_1 : Kd.C k47 w A1_1 l1_1.length l1_1) (hc1_1 : l1_1.length ≤ c1_1) (h : foghornref13_Same.f k l0_0 l0_1 a0_2 a0_3 l1_0 l1_1 a1_2 a1_3 = some r) :
  Calls Tryd.prog 7 #[.agg #[.slice A0_0 l0_0.length c0_0, .slice A0_1 l0_1.length c0_1, .int .i64 a0_2, .int .i64 a0_3], .agg #[.slice A1_0 l1_0.length c1_0, .slice A1_1 l1_1.length c1_1, .int .i64 a1_2, .int .i64 a1_3]] w fun e w' => e = .returned (.bool r) ∧ Below w.heap.size w w' := by
 have hu25 := Tryd.underlying25
 have hu43 := Tryd.underlying43
 have hu47 := Tryd.underlying47
 have HR0_0 := aA hr0_0
 have HC0_0 := aA hc0_0
 clear hr0_0 hc0_0
 have HR0_1 := aA hr0_1
 have HC0_1 := aA hc0_1
 clear hr0_1 hc0_1
 have HR1_0 := aA hr1_0
 have HC1_0 := aA hc1_0
 clear hr1_0 hc1_0
 have HR1_1 := aA hr1_1
 have HC1_1 := aA hc1_1
 clear hr1_1 hc1_1
 have HB := aA (Below.refl w.heap.size w)
 have H : (if (l0_0.length : Int) = (l1_0.length : Int) then (if (l0_1.length : Int) = (l1_1.length : Int) then (if a0_2 = a1_2 then (foghornref13_Same.j0 k (a0_3 != a1_3) l0_0 l0_1 a0_2 a0_3 l1_0 l1_1 a1_2 a1_3) else (foghornref13_Same.j0 k true l0_0 l0_1 a0_2 a0_3 l1_0 l1_1 a1_2 a1_3)) else (foghornref13_Same.j0 k true l0_0 l0_1 a0_2 a0_3 l1_0 l1_1 a1_2 a1_3)) else (foghornref13_Same.j0 k true l0_0 l0_1 a0_2 a0_3 l1_0 l1_1 a1_2 a1_3)) = some r := h
 clear h
 have HC3 := aA H
 clear H
 go_enter Tryd.func7, Tryd.ntmps7
 go_upto_region 1 with (first | ((with_reducible refine gate_dst (N := 2) rfl ?_); (try (refine gate_guard (by rfl) ?_; dsimp only)); refine box_event ?hg (N := 2) ?hd (cs := #[.slice A0_0 l0_0.length c0_0, .slice A0_1 l0_1.length c0_1, .int .i64 a0_2, .int .i64 a0_3]) (t := 25) ?hr ?_; (case hd => rfl); (case hg => rfl); (case hr => first | (go_simp; done) | (go_simp; rfl)); intro gb125 hg w4 hbox hb; have n0_ := aA (below_step mB hb); have n1_ := aA (hbox); have n2_ := aA ((bZ hg mB)); have n3_ := aA ((bZ hg mB)); clear HB; have HB := n0_; have BK125 := n1_; have GW125 := n2_; have GE125 := n3_; clear n0_ n1_ n2_ n3_ hb hbox hg) | ((with_reducible refine gate_dst (N := 3) rfl ?_); (try (refine gate_guard (by rfl) ?_; dsimp only)); refine box_event ?hg (N := 3) ?hd (cs := #[.slice A1_0 l1_0.length c1_0, .slice A1_1 l1_1.length c1_1, .int .i64 a1_2, .int .i64 a1_3]) (t := 25) ?hr ?_; (case hd => rfl); (case hg => rfl); (case hr => first | (go_simp; done) | (go_simp; rfl)); intro gb126 hg w5 hbox hb; have n0_ := aA (bB BK125.out hb); have n1_ := aA (below_step (mD1 GE125.out) hb); have n2_ := aA (hbox); have n3_ := aA ((bZ hg (mD1 GE125.out))); have n4_ := aA ((bZ hg (mD1 GE125.out))); have n5_ := aA ((bL hg BK125.out)); have n6_ := aA ((bG hg BK125.out)); clear BK125 HB; have BK125 := n0_; have HB := n1_; have BK126 := n2_; have GW126 := n3_; have GE126 := n4_; have NB125_126 := n5_; have NB126_125 := n6_; clear n0_ n1_ n2_ n3_ n4_ n5_ n6_ hb hbox hg))
 repeat (go_quiet (first | ((with_reducible refine gate_dst (N := 2) rfl ?_); (try (refine gate_guard (by rfl) ?_; dsimp only)); refine box_event ?hg (N := 2) ?hd (cs := #[.slice A0_0 l0_0.length c0_0, .slice A0_1 l0_1.length c0_1, .int .i64 a0_2, .int .i64 a0_3]) (t := 25) ?hr ?_; (case hd => rfl); (case hg => rfl); (case hr => first | (go_simp; done) | (go_simp; rfl)); intro gb125 hg w4 hbox hb; have n0_ := aA (below_step mB hb); have n1_ := aA (hbox); have n2_ := aA ((bZ hg mB)); have n3_ := aA ((bZ hg mB)); clear HB; have HB := n0_; have BK125 := n1_; have GW125 := n2_; have GE125 := n3_; clear n0_ n1_ n2_ n3_ hb hbox hg) | ((with_reducible refine gate_dst (N := 3) rfl ?_); (try (refine gate_guard (by rfl) ?_; dsimp only)); refine box_event ?hg (N := 3) ?hd (cs := #[.slice A1_0 l1_0.length c1_0, .slice A1_1 l1_1.length c1_1, .int .i64 a1_2, .int .i64 a1_3]) (t := 25) ?hr ?_; (case hd => rfl); (case hg => rfl); (case hr => first | (go_simp; done) | (go_simp; rfl)); intro gb126 hg w5 hbox hb; have n0_ := aA (bB BK125.out hb); have n1_ := aA (below_step (mD1 GE125.out) hb); have n2_ := aA (hbox); have n3_ := aA ((bZ hg (mD1 GE125.out))); have n4_ := aA ((bZ hg (mD1 GE125.out))); have n5_ := aA ((bL hg BK125.out)); have n6_ := aA ((bG hg BK125.out)); clear BK125 HB; have BK125 := n0_; have HB := n1_; have BK126 := n2_; have GW126 := n3_; have GE126 := n4_; have NB125_126 := n5_; have NB126_125 := n6_; clear n0_ n1_ n2_ n3_ n4_ n5_ n6_ hb hbox hg)); go_upto_region 1 with (first | ((with_reducible refine gate_dst (N := 2) rfl ?_); (try (refine gate_guard (by rfl) ?_; dsimp only)); refine box_event ?hg (N := 2) ?hd (cs := #[.slice A0_0 l0_0.length c0_0, .slice A0_1 l0_1.length c0_1, .int .i64 a0_2, .int .i64 a0_3]) (t := 25) ?hr ?_; (case hd => rfl); (case hg => rfl); (case hr => first | (go_simp; done) | (go_simp; rfl)); intro gb125 hg w4 hbox hb; have n0_ := aA (below_step mB hb); have n1_ := aA (hbox); have n2_ := aA ((bZ hg mB)); have n3_ := aA ((bZ hg mB)); clear HB; have HB := n0_; have BK125 := n1_; have GW125 := n2_; have GE125 := n3_; clear n0_ n1_ n2_ n3_ hb hbox hg) | ((with_reducible refine gate_dst (N := 3) rfl ?_); (try (refine gate_guard (by rfl) ?_; dsimp only)); refine box_event ?hg (N := 3) ?hd (cs := #[.slice A1_0 l1_0.length c1_0, .slice A1_1 l1_1.length c1_1, .int .i64 a1_2, .int .i64 a1_3]) (t := 25) ?hr ?_; (case hd => rfl); (case hg => rfl); (case hr => first | (go_simp; done) | (go_simp; rfl)); intro gb126 hg w5 hbox hb; have n0_ := aA (bB BK125.out hb); have n1_ := aA (below_step (mD1 GE125.out) hb); have n2_ := aA (hbox); have n3_ := aA ((bZ hg (mD1 GE125.out))); have n4_ := aA ((bZ hg (mD1 GE125.out))); have n5_ := aA ((bL hg BK125.out)); have n6_ := aA ((bG hg BK125.out)); clear BK125 HB; have BK125 := n0_; have HB := n1_; have BK126 := n2_; have GW126 := n3_; have GE126 := n4_; have NB125_126 := n5_; have NB126_125 := n6_; clear n0_ n1_ n2_ n3_ n4_ n5_ n6_ hb hbox hg)))
 (try simp only [Act.put, List.setIfInBounds_toArray, List.set_cons_zero, List.set_cons_succ])
 go_cut [39] (fun v39 wc => ∃ (kq : Nat) (x39_2 : Bool), v39 = .bool x39_2 ∧ Aside0 (foghornref13_Same.j0 kq x39_2 l0_0 l0_1 a0_2 a0_3 l1_0 l1_1 a1_2 a1_3 = some r) ∧ Aside0 (kq ≤ k) ∧ Aside0 (wc.heap[gb125]? = some (.cells #[(.slice A0_0 l0_0.length c0_0), (.slice A0_1 l0_1.length c0_1), .int .i64 a0_2, .int .i64 a0_3] 25 (0, 0))) ∧ Aside0 (wc.heap[gb126]? = some (.cells #[(.slice A1_0 l1_0.length c1_0), (.slice A1_1 l1_1.length c1_1), .int .i64 a1_2, .int .i64 a1_3] 25 (0, 0))) ∧ Aside0 (Below w.heap.size w wc))
 case first =>
  have H := HC3.out
  clear HC3
  by_cases c6 : (l0_0.length : Int) = (l1_0.length : Int)
  ·rw [if_pos c6] at H
   have c6b0 : ((l0_0.length : Int) == (l1_0.length : Int)) = true := beq_iff_eq.mpr c6
   have c6b1 : ((l0_0.length : Int) != (l1_0.length : Int)) = false := bne_eq_false_iff_eq.mpr c6
   have c6b2 : (l0_0.length == l1_0.length) = true := by first | simpa using c6 | (simp at c6 ⊢; omega)
   clear c6
   (first | rw [c6b0] | (simp only [i64_w, i32_w]; rw [c6b0]) | skip)
   by_cases c7 : (l0_1.length : Int) = (l1_1.length : Int)
   ·rw [if_pos c7] at H
    have c7b0 : ((l0_1.length : Int) == (l1_1.length : Int)) = true := beq_iff_eq.mpr c7
    have c7b1 : ((l0_1.length : Int) != (l1_1.length : Int)) = false := bne_eq_false_iff_eq.mpr c7
    have c7b2 : (l0_1.length == l1_1.length) = true := by first | simpa using c7 | (simp at c7 ⊢; omega)
    clear c7
    by_cases c8 : a0_2 = a1_2
    ·rw [if_pos c8] at H
     have c8b0 : (a0_2 == a1_2) = true := beq_iff_eq.mpr c8
     have c8b1 : (a0_2 != a1_2) = false := bne_eq_false_iff_eq.mpr c8
     clear c8
     have H' := aA H
     clear H
     have hnb9 := NB125_126.out
     have hnc9 := NB126_125.out
     obtain ⟨hcz10_0, hcz10_1, hcz10_2, hcz10_3⟩ := bC4 BK125.out
     obtain ⟨hfz10_0, hfz10_1, hfz10_2, hfz10_3⟩ := bF4 BK125.out
     obtain ⟨hcz11_0, hcz11_1, hcz11_2, hcz11_3⟩ := bC4 BK126.out
     obtain ⟨hfz11_0, hfz11_1, hfz11_2, hfz11_3⟩ := bF4 BK126.out
     go_wp2
     repeat (go_quiet (fail); try go_wp2)
     go_meet
     case rel => exact ⟨_, ((a0_3 != a1_3)), (by first | rfl | (simp; done) | (simp [*]; done)), H', ⟨by first | omega | exact Nat.le_refl _⟩, ⟨by (with_reducible repeat (first | refine blk_drewN ?_ _ | refine blk_drew ?_ | refine blk_alloc ?_ _)); exact BK125.out⟩, ⟨by (with_reducible repeat (first | refine blk_drewN ?_ _ | refine blk_drew ?_ | refine blk_alloc ?_ _)); exact BK126.out⟩, ⟨by repeat (first | (with_reducible first | exact HB.out | apply below_alloc | apply pw_below_drewN | apply below_drew1 | refine below_set ?_ GE125.out | refine below_set ?_ GE126.out) | exact HB.out)⟩⟩
    ·rw [if_neg c8] at H
     have c8b0 : (a0_2 == a1_2) = false := beq_eq_false_iff_ne.mpr c8
     have c8b1 : (a0_2 != a1_2) = true := bne_iff_ne.mpr c8
     have H' := aA H
     clear H
     have hnb12 := NB125_126.out
     have hnc12 := NB126_125.out
     obtain ⟨hcz13_0, hcz13_1, hcz13_2, hcz13_3⟩ := bC4 BK125.out
     obtain ⟨hfz13_0, hfz13_1, hfz13_2, hfz13_3⟩ := bF4 BK125.out
     obtain ⟨hcz14_0, hcz14_1, hcz14_2, hcz14_3⟩ := bC4 BK126.out
     obtain ⟨hfz14_0, hfz14_1, hfz14_2, hfz14_3⟩ := bF4 BK126.out
     go_wp2
     repeat (go_quiet (fail); try go_wp2)
     go_meet
     case rel => exact ⟨_, (true), (by first | rfl | (simp; done) | (simp [*]; done)), H', ⟨by first | omega | exact Nat.le_refl _⟩, ⟨by (with_reducible repeat (first | refine blk_drewN ?_ _ | refine blk_drew ?_ | refine blk_alloc ?_ _)); exact BK125.out⟩, ⟨by (with_reducible repeat (first | refine blk_drewN ?_ _ | refine blk_drew ?_ | refine blk_alloc ?_ _)); exact BK126.out⟩, ⟨by repeat (first | (with_reducible first | exact HB.out | apply below_alloc | apply pw_below_drewN | apply below_drew1 | refine below_set ?_ GE125.out | refine below_set ?_ GE126.out) | exact HB.out)⟩⟩
   ·rw [if_neg c7] at H
    have c7b0 : ((l0_1.length : Int) == (l1_1.length : Int)) = false := beq_eq_false_iff_ne.mpr c7
    have c7b1 : ((l0_1.length : Int) != (l1_1.length : Int)) = true := bne_iff_ne.mpr c7
    have c7b2 : (l0_1.length == l1_1.length) = false := by first | simpa using c7 | (simp at c7 ⊢; omega)
    have H' := aA H
    clear H
    have hnb15 := NB125_126.out
    have hnc15 := NB126_125.out
    obtain ⟨hcz16_0, hcz16_1, hcz16_2, hcz16_3⟩ := bC4 BK125.out
    obtain ⟨hfz16_0, hfz16_1, hfz16_2, hfz16_3⟩ := bF4 BK125.out
    obtain ⟨hcz17_0, hcz17_1, hcz17_2, hcz17_3⟩ := bC4 BK126.out
    obtain ⟨hfz17_0, hfz17_1, hfz17_2, hfz17_3⟩ := bF4 BK126.out
    go_wp2
    repeat (go_quiet (fail); try go_wp2)
    go_meet
    case rel => exact ⟨_, (true), (by first | rfl | (simp; done) | (simp [*]; done)), H', ⟨by first | omega | exact Nat.le_refl _⟩, ⟨by (with_reducible repeat (first | refine blk_drewN ?_ _ | refine blk_drew ?_ | refine blk_alloc ?_ _)); exact BK125.out⟩, ⟨by (with_reducible repeat (first | refine blk_drewN ?_ _ | refine blk_drew ?_ | refine blk_alloc ?_ _)); exact BK126.out⟩, ⟨by repeat (first | (with_reducible first | exact HB.out | apply below_alloc | apply pw_below_drewN | apply below_drew1 | refine below_set ?_ GE125.out | refine below_set ?_ GE126.out) | exact HB.out)⟩⟩
  ·rw [if_neg c6] at H
   have c6b0 : ((l0_0.length : Int) == (l1_0.length : Int)) = false := beq_eq_false_iff_ne.mpr c6
   have c6b1 : ((l0_0.length : Int) != (l1_0.length : Int)) = true := bne_iff_ne.mpr c6
   have c6b2 : (l0_0.length == l1_0.length) = false := by first | simpa using c6 | (simp at c6 ⊢; omega)
   (first | rw [c6b0] | (simp only [i64_w, i32_w]; rw [c6b0]) | skip)
   have H' := aA H
   clear H
   have hnb18 := NB125_126.out
   have hnc18 := NB126_125.out
   obtain ⟨hcz19_0, hcz19_1, hcz19_2, hcz19_3⟩ := bC4 BK125.out
   obtain ⟨hfz19_0, hfz19_1, hfz19_2, hfz19_3⟩ := bF4 BK125.out
   obtain ⟨hcz20_0, hcz20_1, hcz20_2, hcz20_3⟩ := bC4 BK126.out
   obtain ⟨hfz20_0, hfz20_1, hfz20_2, hfz20_3⟩ := bF4 BK126.out
   go_wp2
   repeat (go_quiet (fail); try go_wp2)
   go_meet
   case rel => exact ⟨_, (true), (by first | rfl | (simp; done) | (simp [*]; done)), H', ⟨by first | omega | exact Nat.le_refl _⟩, ⟨by (with_reducible repeat (first | refine blk_drewN ?_ _ | refine blk_drew ?_ | refine blk_alloc ?_ _)); exact BK125.out⟩, ⟨by (with_reducible repeat (first | refine blk_drewN ?_ _ | refine blk_drew ?_ | refine blk_alloc ?_ _)); exact BK126.out⟩, ⟨by repeat (first | (with_reducible first | exact HB.out | apply below_alloc | apply pw_below_drewN | apply below_drew1 | refine below_set ?_ GE125.out | refine below_set ?_ GE126.out) | exact HB.out)⟩⟩
 case rest =>
  clear HC3
  try clear c1
  try clear p2
  try clear c6
  try clear c6b0
  try clear c6b1
  try clear c6b2
  try clear c7
  try clear c7b0
  try clear c7b1
  try clear c7b2
  try clear c8
  try clear c8b0
  try clear c8b1
  try clear c9
  try clear c12
  try clear c15
  try clear c18
  try clear hcz10_0 hcz10_1 hcz10_2 hcz10_3
  try clear hcz11_0 hcz11_1 hcz11_2 hcz11_3
  try clear hcz13_0 hcz13_1 hcz13_2 hcz13_3
  try clear hcz14_0 hcz14_1 hcz14_2 hcz14_3
  try clear hcz16_0 hcz16_1 hcz16_2 hcz16_3
  try clear hcz17_0 hcz17_1 hcz17_2 hcz17_3
  try clear hcz19_0 hcz19_1 hcz19_2 hcz19_3
  try clear hcz20_0 hcz20_1 hcz20_2 hcz20_3
  try clear hfz10_0 hfz10_1 hfz10_2 hfz10_3
  try clear hfz11_0 hfz11_1 hfz11_2 hfz11_3
  try clear hfz13_0 hfz13_1 hfz13_2 hfz13_3
  try clear hfz14_0 hfz14_1 hfz14_2 hfz14_3
  try clear hfz16_0 hfz16_1 hfz16_2 hfz16_3
  try clear hfz17_0 hfz17_1 hfz17_2 hfz17_3
  try clear hfz19_0 hfz19_1 hfz19_2 hfz19_3
  try clear hfz20_0 hfz20_1 hfz20_2 hfz20_3
  obtain ⟨kq, x39_2, rfl, HA, HJ2, BK125, BK126, HB⟩ := hcut
  cases kq with
  | zero => exact absurd HA.out (by simp [foghornref13_Same.j0])
  | succ kj2 =>
   have H := HA.out
   clear HA
   simp only [foghornref13_Same.j0] at H
   by_cases c21 : x39_2 = true
   ·subst c21
    have H1 : (some false) = some r := by rw [if_pos rfl] at H; exact H
    clear H
    have H := H1
    clear H1
    obtain rfl := Option.some.inj H
    go_wp2
    repeat (go_quiet (fail); try go_wp2)
    go_ret
    exact ⟨by first | rfl | (simp [errW_none, errW_some] <;> rfl) | (simp [*, errW_none, errW_some] <;> rfl), by repeat (first | (with_reducible first | exact HB.out | apply below_alloc | apply pw_below_drewN | apply below_drew1 | refine below_set ?_ GE125.out | refine below_set ?_ GE126.out) | exact HB.out)⟩
   ·replace c21 := Bool.eq_false_iff.mpr c21
    subst c21
    have H1 : (foghornref13_Same.l0 kj2 (l0_0.length : Int) 0 l0_0 l0_1 a0_2 a0_3 l1_0 l1_1 a1_2 a1_3) = some r := by rw [if_neg (show ¬ (false = true) by decide)] at H; exact H
    clear H
    have H := H1
    clear H1
    have H' := aA H
    clear H
    have hnb22 := NB125_126.out
    have hnc22 := NB126_125.out
    obtain ⟨hcz23_0, hcz23_1, hcz23_2, hcz23_3⟩ := bC4 BK125.out
    obtain ⟨hfz23_0, hfz23_1, hfz23_2, hfz23_3⟩ := bF4 BK125.out
    go_wp2
    repeat (go_quiet (fail); try go_wp2)
    go_loopg [43] kj2 (fun kq v43 w' => ∃ (x43_2 : Int), v43 = .int .i64 x43_2 ∧ Aside0 (foghornref13_Same.l0 kq (l0_0.length : Int) x43_2 l0_0 l0_1 a0_2 a0_3 l1_0 l1_1 a1_2 a1_3 = some r) ∧ Aside0 (kq ≤ kj2) ∧ Aside0 (w'.heap[gb125]? = some (.cells #[(.slice A0_0 l0_0.length c0_0), (.slice A0_1 l0_1.length c0_1), .int .i64 a0_2, .int .i64 a0_3] 25 (0, 0))) ∧ Aside0 (w'.heap[gb126]? = some (.cells #[(.slice A1_0 l1_0.length c1_0), (.slice A1_1 l1_1.length c1_1), .int .i64 a1_2, .int .i64 a1_3] 25 (0, 0))) ∧ Aside0 (Below w.heap.size w w'))
    case atStart => exact ⟨(0), (by first | rfl | (simp; done) | (simp [*]; done)), H', ⟨Nat.le_refl _⟩, ⟨by (with_reducible repeat (first | refine blk_drewN ?_ _ | refine blk_drew ?_ | refine blk_alloc ?_ _)); exact BK125.out⟩, ⟨by (with_reducible repeat (first | refine blk_drewN ?_ _ | refine blk_drew ?_ | refine blk_alloc ?_ _)); exact BK126.out⟩, ⟨by repeat (first | (with_reducible first | exact HB.out | apply below_alloc | apply pw_below_drewN | apply below_drew1 | refine below_set ?_ GE125.out | refine below_set ?_ GE126.out) | exact HB.out)⟩⟩
    case round =>
     clear H'
     try clear c1
     try clear c2
     try clear p2
     try clear c6
     try clear c6b0
     try clear c6b1
     try clear c6b2
     try clear c7
     try clear c7b0
     try clear c7b1
     try clear c7b2
     try clear c8
     try clear c8b0
     try clear c8b1
     try clear c9
     try clear c12
     try clear c15
     try clear c18
     try clear c21
     try clear c22
     try clear hcz10_0 hcz10_1 hcz10_2 hcz10_3
     try clear hcz11_0 hcz11_1 hcz11_2 hcz11_3
     try clear hcz13_0 hcz13_1 hcz13_2 hcz13_3
     try clear hcz14_0 hcz14_1 hcz14_2 hcz14_3
     try clear hcz16_0 hcz16_1 hcz16_2 hcz16_3
     try clear hcz17_0 hcz17_1 hcz17_2 hcz17_3
     try clear hcz19_0 hcz19_1 hcz19_2 hcz19_3
     try clear hcz20_0 hcz20_1 hcz20_2 hcz20_3
     try clear hcz23_0 hcz23_1 hcz23_2 hcz23_3
     try clear hfz10_0 hfz10_1 hfz10_2 hfz10_3
     try clear hfz11_0 hfz11_1 hfz11_2 hfz11_3
     try clear hfz13_0 hfz13_1 hfz13_2 hfz13_3
     try clear hfz14_0 hfz14_1 hfz14_2 hfz14_3
     try clear hfz16_0 hfz16_1 hfz16_2 hfz16_3
     try clear hfz17_0 hfz17_1 hfz17_2 hfz17_3
     try clear hfz19_0 hfz19_1 hfz19_2 hfz19_3
     try clear hfz20_0 hfz20_1 hfz20_2 hfz20_3
     try clear hfz23_0 hfz23_1 hfz23_2 hfz23_3
     try clear p2
     obtain ⟨x43_2, rfl, HA, HK2, BK125, BK126, HB⟩ := hrel
     cases gk with
     | zero => exact absurd HA.out (by simp [foghornref13_Same.l0])
     | succ k2 =>
      have H := HA.out
      clear HA
      simp only [foghornref13_Same.l0] at H
      by_cases c24 : x43_2 < (l0_0.length : Int)
      ·rw [if_pos c24] at H
       have c24b0 : decide (x43_2 < (l0_0.length : Int)) = true := decide_eq_true c24
       clear c24
       by_cases c25 : 0 ≤ x43_2
       ·rw [if_pos c25] at H
        have c25b0 : decide (0 ≤ x43_2) = true := decide_eq_true c25
        clear c25
        by_cases c26 : x43_2 < (l0_0.length : Int)
        ·rw [if_pos c26] at H
         have c26b0 : decide (x43_2 < (l0_0.length : Int)) = true := decide_eq_true c26
         clear c26
         by_cases c27 : x43_2 < (l1_0.length : Int)
         ·rw [if_pos c27] at H
          have c27b0 : decide (x43_2 < (l1_0.length : Int)) = true := decide_eq_true c27
          clear c27
          by_cases c28 : (!((((rd_T43 l0_0 x43_2).f0).toList) == (((rd_T43 l1_0 x43_2).f0).toList)) || ((!(((rd_T43 l0_0 x43_2).f1.f0) == ((rd_T43 l1_0 x43_2).f1.f0)) || (!(((rd_T43 l0_0 x43_2).f1.f1) == ((rd_T43 l1_0 x43_2).f1.f1)) || (!(((rd_T43 l0_0 x43_2).f1.f2) == ((rd_T43 l1_0 x43_2).f1.f2))))) || (!(((rd_T43 l0_0 x43_2).f2) == ((rd_T43 l1_0 x43_2).f2)) || (!(((rd_T43 l0_0 x43_2).f3) == ((rd_T43 l1_0 x43_2).f3)) || (!(((rd_T43 l0_0 x43_2).f4) == ((rd_T43 l1_0 x43_2).f4)) || (!(((rd_T43 l0_0 x43_2).f5) == ((rd_T43 l1_0 x43_2).f5)) || (!(((rd_T43 l0_0 x43_2).f6) == ((rd_T43 l1_0 x43_2).f6))))))))) = true
          ·rw [if_pos c28] at H
           have c28b0 : (!((((rd_T43 l0_0 x43_2).f0).toList) == (((rd_T43 l1_0 x43_2).f0).toList)) || ((!(((rd_T43 l0_0 x43_2).f1.f0) == ((rd_T43 l1_0 x43_2).f1.f0)) || (!(((rd_T43 l0_0 x43_2).f1.f1) == ((rd_T43 l1_0 x43_2).f1.f1)) || (!(((rd_T43 l0_0 x43_2).f1.f2) == ((rd_T43 l1_0 x43_2).f1.f2))))) || (!(((rd_T43 l0_0 x43_2).f2) == ((rd_T43 l1_0 x43_2).f2)) || (!(((rd_T43 l0_0 x43_2).f3) == ((rd_T43 l1_0 x43_2).f3)) || (!(((rd_T43 l0_0 x43_2).f4) == ((rd_T43 l1_0 x43_2).f4)) || (!(((rd_T43 l0_0 x43_2).f5) == ((rd_T43 l1_0 x43_2).f5)) || (!(((rd_T43 l0_0 x43_2).f6) == ((rd_T43 l1_0 x43_2).f6))))))))) = true := c28
           clear c28
           obtain rfl := Option.some.inj H
           have hnb29 := NB125_126.out
           have hnc29 := NB126_125.out
           obtain ⟨hcz30_0, hcz30_1, hcz30_2, hcz30_3⟩ := bC4 BK125.out
           obtain ⟨hfz30_0, hfz30_1, hfz30_2, hfz30_3⟩ := bF4 BK125.out
           have p127 : 0 ≤ (x43_2 : Int) := of_decide_eq_true (by first | (with_reducible assumption) | assumption)
           have q127 : x43_2 < (l0_0.length : Int) := of_decide_eq_true (by first | (with_reducible assumption) | assumption)
           obtain ⟨ad127, e127, hx127_0, hx127_1, hx127_2, hx127_3, hx127_4, hx127_5, hx127_6, hx127_7, hx127_8⟩ := at_T43 HR0_0.out x43_2 p127 q127
           cases e127
           replace hx127_0 := (HB.out.cell (World.block_lt_of_cell? w _ hx127_0)).trans hx127_0
           replace hx127_1 := (HB.out.cell (World.block_lt_of_cell? w _ hx127_1)).trans hx127_1
           replace hx127_2 := (HB.out.cell (World.block_lt_of_cell? w _ hx127_2)).trans hx127_2
           replace hx127_3 := (HB.out.cell (World.block_lt_of_cell? w _ hx127_3)).trans hx127_3
           replace hx127_4 := (HB.out.cell (World.block_lt_of_cell? w _ hx127_4)).trans hx127_4
           replace hx127_5 := (HB.out.cell (World.block_lt_of_cell? w _ hx127_5)).trans hx127_5
           replace hx127_6 := (HB.out.cell (World.block_lt_of_cell? w _ hx127_6)).trans hx127_6
           replace hx127_7 := (HB.out.cell (World.block_lt_of_cell? w _ hx127_7)).trans hx127_7
           replace hx127_8 := (HB.out.cell (World.block_lt_of_cell? w _ hx127_8)).trans hx127_8
           replace p127 := eq_true p127
           replace q127 := eq_true q127
           obtain ⟨hcz31_0, hcz31_1, hcz31_2, hcz31_3⟩ := bC4 BK126.out
           obtain ⟨hfz31_0, hfz31_1, hfz31_2, hfz31_3⟩ := bF4 BK126.out
           have p128 : 0 ≤ (x43_2 : Int) := of_decide_eq_true (by first | (with_reducible assumption) | assumption)
           have q128 : x43_2 < (l1_0.length : Int) := of_decide_eq_true (by first | (with_reducible assumption) | assumption)
           obtain ⟨ad128, e128, hx128_0, hx128_1, hx128_2, hx128_3, hx128_4, hx128_5, hx128_6, hx128_7, hx128_8⟩ := at_T43 HR1_0.out x43_2 p128 q128
           cases e128
           replace hx128_0 := (HB.out.cell (World.block_lt_of_cell? w _ hx128_0)).trans hx128_0
           replace hx128_1 := (HB.out.cell (World.block_lt_of_cell? w _ hx128_1)).trans hx128_1
           replace hx128_2 := (HB.out.cell (World.block_lt_of_cell? w _ hx128_2)).trans hx128_2
           replace hx128_3 := (HB.out.cell (World.block_lt_of_cell? w _ hx128_3)).trans hx128_3
           replace hx128_4 := (HB.out.cell (World.block_lt_of_cell? w _ hx128_4)).trans hx128_4
           replace hx128_5 := (HB.out.cell (World.block_lt_of_cell? w _ hx128_5)).trans hx128_5
           replace hx128_6 := (HB.out.cell (World.block_lt_of_cell? w _ hx128_6)).trans hx128_6
           replace hx128_7 := (HB.out.cell (World.block_lt_of_cell? w _ hx128_7)).trans hx128_7
           replace hx128_8 := (HB.out.cell (World.block_lt_of_cell? w _ hx128_8)).trans hx128_8
           replace p128 := eq_true p128
           replace q128 := eq_true q128
           go_wp2
           repeat (go_quiet (fail); try go_wp2)
           go_ret
           exact ⟨by first | rfl | (simp [errW_none, errW_some] <;> rfl) | (simp [*, errW_none, errW_some] <;> rfl), by repeat (first | (with_reducible first | exact HB.out | apply below_alloc | apply pw_below_drewN | apply below_drew1 | refine below_set ?_ GE125.out | refine below_set ?_ GE126.out) | exact HB.out)⟩
          ·rw [if_neg c28] at H
           have c28b0 : (!((((rd_T43 l0_0 x43_2).f0).toList) == (((rd_T43 l1_0 x43_2).f0).toList)) || ((!(((rd_T43 l0_0 x43_2).f1.f0) == ((rd_T43 l1_0 x43_2).f1.f0)) || (!(((rd_T43 l0_0 x43_2).f1.f1) == ((rd_T43 l1_0 x43_2).f1.f1)) || (!(((rd_T43 l0_0 x43_2).f1.f2) == ((rd_T43 l1_0 x43_2).f1.f2))))) || (!(((rd_T43 l0_0 x43_2).f2) == ((rd_T43 l1_0 x43_2).f2)) || (!(((rd_T43 l0_0 x43_2).f3) == ((rd_T43 l1_0 x43_2).f3)) || (!(((rd_T43 l0_0 x43_2).f4) == ((rd_T43 l1_0 x43_2).f4)) || (!(((rd_T43 l0_0 x43_2).f5) == ((rd_T43 l1_0 x43_2).f5)) || (!(((rd_T43 l0_0 x43_2).f6) == ((rd_T43 l1_0 x43_2).f6))))))))) = false := by simpa using c28
           clear c28
           have H' := aA H
           clear H
           have hnb32 := NB125_126.out
           have hnc32 := NB126_125.out
           obtain ⟨hcz33_0, hcz33_1, hcz33_2, hcz33_3⟩ := bC4 BK125.out
           obtain ⟨hfz33_0, hfz33_1, hfz33_2, hfz33_3⟩ := bF4 BK125.out
           have p127 : 0 ≤ (x43_2 : Int) := of_decide_eq_true (by first | (with_reducible assumption) | assumption)
           have q127 : x43_2 < (l0_0.length : Int) := of_decide_eq_true (by first | (with_reducible assumption) | assumption)
           obtain ⟨ad127, e127, hx127_0, hx127_1, hx127_2, hx127_3, hx127_4, hx127_5, hx127_6, hx127_7, hx127_8⟩ := at_T43 HR0_0.out x43_2 p127 q127
           cases e127
           replace hx127_0 := (HB.out.cell (World.block_lt_of_cell? w _ hx127_0)).trans hx127_0
           replace hx127_1 := (HB.out.cell (World.block_lt_of_cell? w _ hx127_1)).trans hx127_1
           replace hx127_2 := (HB.out.cell (World.block_lt_of_cell? w _ hx127_2)).trans hx127_2
           replace hx127_3 := (HB.out.cell (World.block_lt_of_cell? w _ hx127_3)).trans hx127_3
           replace hx127_4 := (HB.out.cell (World.block_lt_of_cell? w _ hx127_4)).trans hx127_4
           replace hx127_5 := (HB.out.cell (World.block_lt_of_cell? w _ hx127_5)).trans hx127_5
           replace hx127_6 := (HB.out.cell (World.block_lt_of_cell? w _ hx127_6)).trans hx127_6
           replace hx127_7 := (HB.out.cell (World.block_lt_of_cell? w _ hx127_7)).trans hx127_7
           replace hx127_8 := (HB.out.cell (World.block_lt_of_cell? w _ hx127_8)).trans hx127_8
           replace p127 := eq_true p127
           replace q127 := eq_true q127
           obtain ⟨hcz34_0, hcz34_1, hcz34_2, hcz34_3⟩ := bC4 BK126.out
           obtain ⟨hfz34_0, hfz34_1, hfz34_2, hfz34_3⟩ := bF4 BK126.out
           have p128 : 0 ≤ (x43_2 : Int) := of_decide_eq_true (by first | (with_reducible assumption) | assumption)
           have q128 : x43_2 < (l1_0.length : Int) := of_decide_eq_true (by first | (with_reducible assumption) | assumption)
           obtain ⟨ad128, e128, hx128_0, hx128_1, hx128_2, hx128_3, hx128_4, hx128_5, hx128_6, hx128_7, hx128_8⟩ := at_T43 HR1_0.out x43_2 p128 q128
           cases e128
           replace hx128_0 := (HB.out.cell (World.block_lt_of_cell? w _ hx128_0)).trans hx128_0
           replace hx128_1 := (HB.out.cell (World.block_lt_of_cell? w _ hx128_1)).trans hx128_1
           replace hx128_2 := (HB.out.cell (World.block_lt_of_cell? w _ hx128_2)).trans hx128_2
           replace hx128_3 := (HB.out.cell (World.block_lt_of_cell? w _ hx128_3)).trans hx128_3
           replace hx128_4 := (HB.out.cell (World.block_lt_of_cell? w _ hx128_4)).trans hx128_4
           replace hx128_5 := (HB.out.cell (World.block_lt_of_cell? w _ hx128_5)).trans hx128_5
           replace hx128_6 := (HB.out.cell (World.block_lt_of_cell? w _ hx128_6)).trans hx128_6
           replace hx128_7 := (HB.out.cell (World.block_lt_of_cell? w _ hx128_7)).trans hx128_7
           replace hx128_8 := (HB.out.cell (World.block_lt_of_cell? w _ hx128_8)).trans hx128_8
           replace p128 := eq_true p128
           replace q128 := eq_true q128
           go_wp2
           repeat (go_quiet (fail); try go_wp2)
           go_roundg k2
           case measure => have := HJ2.out; have := HK2.out; omega
           case rel => exact ⟨(wrap64 (x43_2 + 1)), (by first | rfl | (simp; done) | (simp [*]; done)), H', ⟨by have := HJ2.out; have := HK2.out; omega⟩, ⟨by (with_reducible repeat (first | refine blk_drewN ?_ _ | refine blk_drew ?_ | refine blk_alloc ?_ _)); exact BK125.out⟩, ⟨by (with_reducible repeat (first | refine blk_drewN ?_ _ | refine blk_drew ?_ | refine blk_alloc ?_ _)); exact BK126.out⟩, ⟨by repeat (first | (with_reducible first | exact HB.out | apply below_alloc | apply pw_below_drewN | apply below_drew1 | refine below_set ?_ GE125.out | refine below_set ?_ GE126.out) | exact HB.out)⟩⟩
         ·rw [if_neg c27] at H
          exact absurd H (by simp)
        ·rw [if_neg c26] at H
         exact absurd H (by simp)
       ·rw [if_neg c25] at H
        exact absurd H (by simp)
      ·rw [if_neg c24] at H
       have c24b0 : decide (x43_2 < (l0_0.length : Int)) = false := decide_eq_false c24
       clear c24
       have H' := aA H
       clear H
       have hnb35 := NB125_126.out
       have hnc35 := NB126_125.out
       obtain ⟨hcz36_0, hcz36_1, hcz36_2, hcz36_3⟩ := bC4 BK125.out
       obtain ⟨hfz36_0, hfz36_1, hfz36_2, hfz36_3⟩ := bF4 BK125.out
       go_wp2
       repeat (go_quiet (fail); try go_wp2)
       go_loopg [61] k2 (fun kq v61 w' => ∃ (x61_3 : Int), v61 = .int .i64 x61_3 ∧ Aside0 (foghornref13_Same.l1 kq l0_1 (l0_1.length : Int) x61_3 l1_0 l1_1 a1_2 a1_3 = some r) ∧ Aside0 (kq ≤ k2) ∧ Aside0 (w'.heap[gb125]? = some (.cells #[(.slice A0_0 l0_0.length c0_0), (.slice A0_1 l0_1.length c0_1), .int .i64 a0_2, .int .i64 a0_3] 25 (0, 0))) ∧ Aside0 (w'.heap[gb126]? = some (.cells #[(.slice A1_0 l1_0.length c1_0), (.slice A1_1 l1_1.length c1_1), .int .i64 a1_2, .int .i64 a1_3] 25 (0, 0))) ∧ Aside0 (Below w.heap.size w w'))
       case atStart => exact ⟨(0), (by first | rfl | (simp; done) | (simp [*]; done)), H', ⟨Nat.le_refl _⟩, ⟨by (with_reducible repeat (first | refine blk_drewN ?_ _ | refine blk_drew ?_ | refine blk_alloc ?_ _)); exact BK125.out⟩, ⟨by (with_reducible repeat (first | refine blk_drewN ?_ _ | refine blk_drew ?_ | refine blk_alloc ?_ _)); exact BK126.out⟩, ⟨by repeat (first | (with_reducible first | exact HB.out | apply below_alloc | apply pw_below_drewN | apply below_drew1 | refine below_set ?_ GE125.out | refine below_set ?_ GE126.out) | exact HB.out)⟩⟩
       case round =>
        clear H'
        try clear c1
        try clear p1
        try clear q1
        try clear hx1
        try clear c2
        try clear p2
        try clear c3
        try clear c6
        try clear c6b0
        try clear c6b1
        try clear c6b2
        try clear p6
        try clear c7
        try clear c7b0
        try clear c7b1
        try clear c7b2
        try clear c8
        try clear c8b0
        try clear c8b1
        try clear c9
        try clear c12
        try clear p12
        try clear q12
        try clear hx12
        try clear c15
        try clear c18
        try clear c21
        try clear c22
        try clear c24
        try clear c24b0
        try clear c25
        try clear c25b0
        try clear c26
        try clear c26b0
        try clear c27
        try clear c27b0
        try clear c28
        try clear c28b0
        try clear c29
        try clear c32
        try clear c35
        try clear hcz10_0 hcz10_1 hcz10_2 hcz10_3
        try clear hcz11_0 hcz11_1 hcz11_2 hcz11_3
        try clear hcz13_0 hcz13_1 hcz13_2 hcz13_3
        try clear hcz14_0 hcz14_1 hcz14_2 hcz14_3
        try clear hcz16_0 hcz16_1 hcz16_2 hcz16_3
        try clear hcz17_0 hcz17_1 hcz17_2 hcz17_3
        try clear hcz19_0 hcz19_1 hcz19_2 hcz19_3
        try clear hcz20_0 hcz20_1 hcz20_2 hcz20_3
        try clear hcz23_0 hcz23_1 hcz23_2 hcz23_3
        try clear hcz30_0 hcz30_1 hcz30_2 hcz30_3
        try clear hcz31_0 hcz31_1 hcz31_2 hcz31_3
        try clear hcz33_0 hcz33_1 hcz33_2 hcz33_3
        try clear hcz34_0 hcz34_1 hcz34_2 hcz34_3
        try clear hcz36_0 hcz36_1 hcz36_2 hcz36_3
        try clear hfz10_0 hfz10_1 hfz10_2 hfz10_3
        try clear hfz11_0 hfz11_1 hfz11_2 hfz11_3
        try clear hfz13_0 hfz13_1 hfz13_2 hfz13_3
        try clear hfz14_0 hfz14_1 hfz14_2 hfz14_3
        try clear hfz16_0 hfz16_1 hfz16_2 hfz16_3
        try clear hfz17_0 hfz17_1 hfz17_2 hfz17_3
        try clear hfz19_0 hfz19_1 hfz19_2 hfz19_3
        try clear hfz20_0 hfz20_1 hfz20_2 hfz20_3
        try clear hfz23_0 hfz23_1 hfz23_2 hfz23_3
        try clear hfz30_0 hfz30_1 hfz30_2 hfz30_3
        try clear hfz31_0 hfz31_1 hfz31_2 hfz31_3
        try clear hfz33_0 hfz33_1 hfz33_2 hfz33_3
        try clear hfz34_0 hfz34_1 hfz34_2 hfz34_3
        try clear hfz36_0 hfz36_1 hfz36_2 hfz36_3
        try clear hx127_0
        try clear hx127_1
        try clear hx127_2
        try clear hx127_3
        try clear hx127_4
        try clear hx127_5
        try clear hx127_6
        try clear hx127_7
        try clear hx127_8
        try clear hx128_0
        try clear hx128_1
        try clear hx128_2
        try clear hx128_3
        try clear hx128_4
        try clear hx128_5
        try clear hx128_6
        try clear hx128_7
        try clear hx128_8
        try clear p127
        try clear p128
        try clear p2
        try clear q127
        try clear q128
        obtain ⟨x61_3, rfl, HA, HK3, BK125, BK126, HB⟩ := hrel
        cases gk with
        | zero => exact absurd HA.out (by simp [foghornref13_Same.l1])
        | succ k3 =>
         have H := HA.out
         clear HA
         simp only [foghornref13_Same.l1] at H
         by_cases c37 : x61_3 < (l0_1.length : Int)
         ·rw [if_pos c37] at H
          have c37b0 : decide (x61_3 < (l0_1.length : Int)) = true := decide_eq_true c37
          clear c37
          by_cases c38 : 0 ≤ x61_3
          ·rw [if_pos c38] at H
           have c38b0 : decide (0 ≤ x61_3) = true := decide_eq_true c38
           clear c38
           by_cases c39 : x61_3 < (l0_1.length : Int)
           ·rw [if_pos c39] at H
            have c39b0 : decide (x61_3 < (l0_1.length : Int)) = true := decide_eq_true c39
            clear c39
            by_cases c40 : x61_3 < (l1_1.length : Int)
            ·rw [if_pos c40] at H
             have c40b0 : decide (x61_3 < (l1_1.length : Int)) = true := decide_eq_true c40
             clear c40
             have HC41 := aA H
             clear H
             have p129 : 0 ≤ (x61_3 : Int) := of_decide_eq_true (by first | (with_reducible assumption) | assumption)
             have q129 : x61_3 < (l0_1.length : Int) := of_decide_eq_true (by first | (with_reducible assumption) | assumption)
             obtain ⟨ad129, A129_0, c129_0, A129_1, c129_1, e129, hx129_0, hx129_1, hl129_0, hi129_0, hl129_1, hi129_1⟩ := at_T47 HR0_1.out x61_3 p129 q129
             cases e129
             replace hx129_0 := (HB.out.cell (World.block_lt_of_cell? w _ hx129_0)).trans hx129_0
             replace hx129_1 := (HB.out.cell (World.block_lt_of_cell? w _ hx129_1)).trans hx129_1
             have HR129_0 := aA hi129_0
             have HC129_0 := aA hl129_0
             clear hi129_0 hl129_0
             have HR129_1 := aA hi129_1
             have HC129_1 := aA hl129_1
             clear hi129_1 hl129_1
             replace p129 := eq_true p129
             replace q129 := eq_true q129
             go_upto_region 13 with (first | ((with_reducible refine gate_dst (N := 7) rfl ?_); (try (refine gate_guard (by rfl) ?_; dsimp only)); refine box_event ?hg (N := 7) ?hd (cs := #[.slice none 0 0, .slice none 0 0]) (t := 47) ?hr ?_; (case hd => rfl); (case hg => rfl); (case hr => first | (go_simp; done) | (go_simp; rfl)); intro gb130 hg w42 hbox hb; have n0_ := aA (bB BK125.out hb); have n1_ := aA (bB BK126.out hb); have n2_ := aA (below_step (mD2 GE125.out GE126.out) hb); have n3_ := aA (hbox); have n4_ := aA ((bZ hg (mD2 GE125.out GE126.out))); have n5_ := aA ((bZ hg (mD2 GE125.out GE126.out))); have n6_ := aA ((bL hg BK125.out)); have n7_ := aA ((bG hg BK125.out)); have n8_ := aA ((bL hg BK126.out)); have n9_ := aA ((bG hg BK126.out)); clear BK125 BK126 HB; have BK125 := n0_; have BK126 := n1_; have HB := n2_; have BK130 := n3_; have GW130 := n4_; have GE130 := n5_; have NB125_130 := n6_; have NB130_125 := n7_; have NB126_130 := n8_; have NB130_126 := n9_; clear n0_ n1_ n2_ n3_ n4_ n5_ n6_ n7_ n8_ n9_ hb hbox hg; have hnb43 := NB130_125.out; have hnc43 := NB125_130.out; have hnb44 := NB130_126.out; have hnc44 := NB126_130.out; obtain ⟨hcz45_0, hcz45_1⟩ := bC2 BK130.out; obtain ⟨hfz45_0, hfz45_1⟩ := bF2 BK130.out; have hnb46 := NB126_125.out; have hnc46 := NB125_126.out; obtain ⟨hcz47_0, hcz47_1, hcz47_2, hcz47_3⟩ := bC4 BK126.out; obtain ⟨hfz47_0, hfz47_1, hfz47_2, hfz47_3⟩ := bF4 BK126.out; have p131 : 0 ≤ (x61_3 : Int) := of_decide_eq_true (by first | (with_reducible assumption) | assumption); have q131 : x61_3 < (l1_1.length : Int) := of_decide_eq_true (by first | (with_reducible assumption) | assumption); obtain ⟨ad131, A131_0, c131_0, A131_1, c131_1, e131, hx131_0, hx131_1, hl131_0, hi131_0, hl131_1, hi131_1⟩ := at_T47 HR1_1.out x61_3 p131 q131; cases e131; have hn131_0 : ad131.block ≠ gb130 := Nat.ne_of_lt (Nat.lt_of_lt_of_le (by have := World.block_lt_of_cell? _ _ hx131_0; first | rwa [add_block] at this | exact this) GW130.out); have hn131_1 : ad131.block ≠ gb130 := Nat.ne_of_lt (Nat.lt_of_lt_of_le (by have := World.block_lt_of_cell? _ _ hx131_0; first | rwa [add_block] at this | exact this) GW130.out); replace hx131_0 := (HB.out.cell (World.block_lt_of_cell? w _ hx131_0)).trans hx131_0; replace hx131_1 := (HB.out.cell (World.block_lt_of_cell? w _ hx131_1)).trans hx131_1; have HR131_0 := aA hi131_0; have HC131_0 := aA hl131_0; clear hi131_0 hl131_0; have HR131_1 := aA hi131_1; have HC131_1 := aA hl131_1; clear hi131_1 hl131_1; replace hx131_0 := (cell_far (p := ⟨gb130, 0, none⟩) (by first | (rw [add_block]; exact hn131_0) | (show (Addr.add _ _).block ≠ _; rw [add_block]; exact hn131_0) | exact hn131_0) (.slice A129_0 ((rd_T47 l0_1 x61_3).f0).length c129_0)).trans hx131_0; replace hx131_1 := (cell_far (p := ⟨gb130, 0, none⟩) (by first | (rw [add_block]; exact hn131_0) | (show (Addr.add _ _).block ≠ _; rw [add_block]; exact hn131_0) | exact hn131_0) (.slice A129_0 ((rd_T47 l0_1 x61_3).f0).length c129_0)).trans hx131_1; replace hx131_0 := (cell_far (p := ⟨gb130, 1, none⟩) (by first | (rw [add_block]; exact hn131_1) | (show (Addr.add _ _).block ≠ _; rw [add_block]; exact hn131_1) | exact hn131_1) (.slice A129_1 ((rd_T47 l0_1 x61_3).f1).length c129_1)).trans hx131_0; replace hx131_1 := (cell_far (p := ⟨gb130, 1, none⟩) (by first | (rw [add_block]; exact hn131_1) | (show (Addr.add _ _).block ≠ _; rw [add_block]; exact hn131_1) | exact hn131_1) (.slice A129_1 ((rd_T47 l0_1 x61_3).f1).length c129_1)).trans hx131_1; (try have hy131_0 := fun (n_ : Nat) => (show ((((w42.drewN n_).setCell ⟨gb130, 0, none⟩ (.slice A129_0 ((rd_T47 l0_1 x61_3).f0).length c129_0)).setCell ⟨gb130, 1, none⟩ (.slice A129_1 ((rd_T47 l0_1 x61_3).f1).length c129_1))).cell? _ = some _ from hx131_0)); (try have hy131_1 := fun (n_ : Nat) => (show ((((w42.drewN n_).setCell ⟨gb130, 0, none⟩ (.slice A129_0 ((rd_T47 l0_1 x61_3).f0).length c129_0)).setCell ⟨gb130, 1, none⟩ (.slice A129_1 ((rd_T47 l0_1 x61_3).f1).length c129_1))).cell? _ = some _ from hx131_1)); clear hn131_0 hn131_1; replace p131 := eq_true p131; replace q131 := eq_true q131) | ((with_reducible refine gate_dst (N := 8) rfl ?_); (try (refine gate_guard (by rfl) ?_; dsimp only)); refine box_event ?hg (N := 8) ?hd (cs := #[.slice none 0 0, .slice none 0 0]) (t := 47) ?hr ?_; (case hd => rfl); (case hg => rfl); (case hr => first | (go_simp; done) | (go_simp; rfl)); intro gb132 hg w48 hbox hb; have n0_ := aA (blk_below (g := gb125) (o := .cells #[.slice A0_0 l0_0.length c0_0, .slice (some ad129) l0_1.length c0_1, .int .i64 a0_2, .int .i64 a0_3] 25 (0, 0)) (by (with_reducible repeat (first | refine blk_drewN ?_ _ | refine blk_drew ?_ | refine blk_alloc ?_ _)); refine blk_far ?_ NB125_130.out _; (with_reducible repeat (first | refine blk_drewN ?_ _ | refine blk_drew ?_ | refine blk_alloc ?_ _)); refine blk_far ?_ NB125_130.out _; (with_reducible repeat (first | refine blk_drewN ?_ _ | refine blk_drew ?_ | refine blk_alloc ?_ _)); exact BK125.out) hb); have n1_ := aA (blk_below (g := gb126) (o := .cells #[.slice A1_0 l1_0.length c1_0, .slice (some ad131) l1_1.length c1_1, .int .i64 a1_2, .int .i64 a1_3] 25 (0, 0)) (by (with_reducible repeat (first | refine blk_drewN ?_ _ | refine blk_drew ?_ | refine blk_alloc ?_ _)); refine blk_far ?_ NB126_130.out _; (with_reducible repeat (first | refine blk_drewN ?_ _ | refine blk_drew ?_ | refine blk_alloc ?_ _)); refine blk_far ?_ NB126_130.out _; (with_reducible repeat (first | refine blk_drewN ?_ _ | refine blk_drew ?_ | refine blk_alloc ?_ _)); exact BK126.out) hb); have n2_ := aA (blk_below (g := gb130) (o := .cells #[.slice A129_0 ((rd_T47 l0_1 x61_3).f0).length c129_0, .slice A129_1 ((rd_T47 l0_1 x61_3).f1).length c129_1] 47 (0, 0)) (by (with_reducible repeat (first | refine blk_drewN ?_ _ | refine blk_drew ?_ | refine blk_alloc ?_ _)); have h_ := BK130.out; exact pK 1 (pK 0 (h_))) hb); have n3_ := aA (below_step (mD3 GE125.out GE126.out GE130.out) hb); have n4_ := aA (hbox); have n5_ := aA ((bZ hg (mD3 GE125.out GE126.out GE130.out))); have n6_ := aA ((bZ hg (mD3 GE125.out GE126.out GE130.out))); have n7_ := aA ((by rw [hg]; exact Nat.ne_of_lt (blk_lt (g := gb125) (o := .cells #[.slice A0_0 l0_0.length c0_0, .slice (some ad129) l0_1.length c0_1, .int .i64 a0_2, .int .i64 a0_3] 25 (0, 0)) (by (with_reducible repeat (first | refine blk_drewN ?_ _ | refine blk_drew ?_ | refine blk_alloc ?_ _)); refine blk_far ?_ NB125_130.out _; (with_reducible repeat (first | refine blk_drewN ?_ _ | refine blk_drew ?_ | refine blk_alloc ?_ _)); refine blk_far ?_ NB125_130.out _; (with_reducible repeat (first | refine blk_drewN ?_ _ | refine blk_drew ?_ | refine blk_alloc ?_ _)); exact BK125.out)) : gb125 ≠ gb132)); have n8_ := aA ((by rw [hg]; exact Nat.ne_of_gt (blk_lt (g := gb125) (o := .cells #[.slice A0_0 l0_0.length c0_0, .slice (some ad129) l0_1.length c0_1, .int .i64 a0_2, .int .i64 a0_3] 25 (0, 0)) (by (with_reducible repeat (first | refine blk_drewN ?_ _ | refine blk_drew ?_ | refine blk_alloc ?_ _)); refine blk_far ?_ NB125_130.out _; (with_reducible repeat (first | refine blk_drewN ?_ _ | refine blk_drew ?_ | refine blk_alloc ?_ _)); refine blk_far ?_ NB125_130.out _; (with_reducible repeat (first | refine blk_drewN ?_ _ | refine blk_drew ?_ | refine blk_alloc ?_ _)); exact BK125.out)) : gb132 ≠ gb125)); have n9_ := aA ((by rw [hg]; exact Nat.ne_of_lt (blk_lt (g := gb126) (o := .cells #[.slice A1_0 l1_0.length c1_0, .slice (some ad131) l1_1.length c1_1, .int .i64 a1_2, .int .i64 a1_3] 25 (0, 0)) (by (with_reducible repeat (first | refine blk_drewN ?_ _ | refine blk_drew ?_ | refine blk_alloc ?_ _)); refine blk_far ?_ NB126_130.out _; (with_reducible repeat (first | refine blk_drewN ?_ _ | refine blk_drew ?_ | refine blk_alloc ?_ _)); refine blk_far ?_ NB126_130.out _; (with_reducible repeat (first | refine blk_drewN ?_ _ | refine blk_drew ?_ | refine blk_alloc ?_ _)); exact BK126.out)) : gb126 ≠ gb132)); have n10_ := aA ((by rw [hg]; exact Nat.ne_of_gt (blk_lt (g := gb126) (o := .cells #[.slice A1_0 l1_0.length c1_0, .slice (some ad131) l1_1.length c1_1, .int .i64 a1_2, .int .i64 a1_3] 25 (0, 0)) (by (with_reducible repeat (first | refine blk_drewN ?_ _ | refine blk_drew ?_ | refine blk_alloc ?_ _)); refine blk_far ?_ NB126_130.out _; (with_reducible repeat (first | refine blk_drewN ?_ _ | refine blk_drew ?_ | refine blk_alloc ?_ _)); refine blk_far ?_ NB126_130.out _; (with_reducible repeat (first | refine blk_drewN ?_ _ | refine blk_drew ?_ | refine blk_alloc ?_ _)); exact BK126.out)) : gb132 ≠ gb126)); have n11_ := aA ((by rw [hg]; exact Nat.ne_of_lt (blk_lt (g := gb130) (o := .cells #[.slice A129_0 ((rd_T47 l0_1 x61_3).f0).length c129_0, .slice A129_1 ((rd_T47 l0_1 x61_3).f1).length c129_1] 47 (0, 0)) (by (with_reducible repeat (first | refine blk_drewN ?_ _ | refine blk_drew ?_ | refine blk_alloc ?_ _)); have h_ := BK130.out; exact pK 1 (pK 0 (h_)))) : gb130 ≠ gb132)); have n12_ := aA ((by rw [hg]; exact Nat.ne_of_gt (blk_lt (g := gb130) (o := .cells #[.slice A129_0 ((rd_T47 l0_1 x61_3).f0).length c129_0, .slice A129_1 ((rd_T47 l0_1 x61_3).f1).length c129_1] 47 (0, 0)) (by (with_reducible repeat (first | refine blk_drewN ?_ _ | refine blk_drew ?_ | refine blk_alloc ?_ _)); have h_ := BK130.out; exact pK 1 (pK 0 (h_)))) : gb132 ≠ gb130)); clear BK125 BK126 BK130 HB; have BK125 := n0_; have BK126 := n1_; have BK130 := n2_; have HB := n3_; have BK132 := n4_; have GW132 := n5_; have GE132 := n6_; have NB125_132 := n7_; have NB132_125 := n8_; have NB126_132 := n9_; have NB132_126 := n10_; have NB130_132 := n11_; have NB132_130 := n12_; clear n0_ n1_ n2_ n3_ n4_ n5_ n6_ n7_ n8_ n9_ n10_ n11_ n12_ hb hbox hg; have hnb49 := NB132_125.out; have hnc49 := NB125_132.out; have hnb50 := NB132_126.out; have hnc50 := NB126_132.out; have hnb51 := NB132_130.out; have hnc51 := NB130_132.out; obtain ⟨hcz52_0, hcz52_1⟩ := bC2 BK132.out; obtain ⟨hfz52_0, hfz52_1⟩ := bF2 BK132.out))
             repeat (go_quiet (first | ((with_reducible refine gate_dst (N := 7) rfl ?_); (try (refine gate_guard (by rfl) ?_; dsimp only)); refine box_event ?hg (N := 7) ?hd (cs := #[.slice none 0 0, .slice none 0 0]) (t := 47) ?hr ?_; (case hd => rfl); (case hg => rfl); (case hr => first | (go_simp; done) | (go_simp; rfl)); intro gb130 hg w42 hbox hb; have n0_ := aA (bB BK125.out hb); have n1_ := aA (bB BK126.out hb); have n2_ := aA (below_step (mD2 GE125.out GE126.out) hb); have n3_ := aA (hbox); have n4_ := aA ((bZ hg (mD2 GE125.out GE126.out))); have n5_ := aA ((bZ hg (mD2 GE125.out GE126.out))); have n6_ := aA ((bL hg BK125.out)); have n7_ := aA ((bG hg BK125.out)); have n8_ := aA ((bL hg BK126.out)); have n9_ := aA ((bG hg BK126.out)); clear BK125 BK126 HB; have BK125 := n0_; have BK126 := n1_; have HB := n2_; have BK130 := n3_; have GW130 := n4_; have GE130 := n5_; have NB125_130 := n6_; have NB130_125 := n7_; have NB126_130 := n8_; have NB130_126 := n9_; clear n0_ n1_ n2_ n3_ n4_ n5_ n6_ n7_ n8_ n9_ hb hbox hg; have hnb43 := NB130_125.out; have hnc43 := NB125_130.out; have hnb44 := NB130_126.out; have hnc44 := NB126_130.out; obtain ⟨hcz45_0, hcz45_1⟩ := bC2 BK130.out; obtain ⟨hfz45_0, hfz45_1⟩ := bF2 BK130.out; have hnb46 := NB126_125.out; have hnc46 := NB125_126.out; obtain ⟨hcz47_0, hcz47_1, hcz47_2, hcz47_3⟩ := bC4 BK126.out; obtain ⟨hfz47_0, hfz47_1, hfz47_2, hfz47_3⟩ := bF4 BK126.out; have p131 : 0 ≤ (x61_3 : Int) := of_decide_eq_true (by first | (with_reducible assumption) | assumption); have q131 : x61_3 < (l1_1.length : Int) := of_decide_eq_true (by first | (with_reducible assumption) | assumption); obtain ⟨ad131, A131_0, c131_0, A131_1, c131_1, e131, hx131_0, hx131_1, hl131_0, hi131_0, hl131_1, hi131_1⟩ := at_T47 HR1_1.out x61_3 p131 q131; cases e131; have hn131_0 : ad131.block ≠ gb130 := Nat.ne_of_lt (Nat.lt_of_lt_of_le (by have := World.block_lt_of_cell? _ _ hx131_0; first | rwa [add_block] at this | exact this) GW130.out); have hn131_1 : ad131.block ≠ gb130 := Nat.ne_of_lt (Nat.lt_of_lt_of_le (by have := World.block_lt_of_cell? _ _ hx131_0; first | rwa [add_block] at this | exact this) GW130.out); replace hx131_0 := (HB.out.cell (World.block_lt_of_cell? w _ hx131_0)).trans hx131_0; replace hx131_1 := (HB.out.cell (World.block_lt_of_cell? w _ hx131_1)).trans hx131_1; have HR131_0 := aA hi131_0; have HC131_0 := aA hl131_0; clear hi131_0 hl131_0; have HR131_1 := aA hi131_1; have HC131_1 := aA hl131_1; clear hi131_1 hl131_1; replace hx131_0 := (cell_far (p := ⟨gb130, 0, none⟩) (by first | (rw [add_block]; exact hn131_0) | (show (Addr.add _ _).block ≠ _; rw [add_block]; exact hn131_0) | exact hn131_0) (.slice A129_0 ((rd_T47 l0_1 x61_3).f0).length c129_0)).trans hx131_0; replace hx131_1 := (cell_far (p := ⟨gb130, 0, none⟩) (by first | (rw [add_block]; exact hn131_0) | (show (Addr.add _ _).block ≠ _; rw [add_block]; exact hn131_0) | exact hn131_0) (.slice A129_0 ((rd_T47 l0_1 x61_3).f0).length c129_0)).trans hx131_1; replace hx131_0 := (cell_far (p := ⟨gb130, 1, none⟩) (by first | (rw [add_block]; exact hn131_1) | (show (Addr.add _ _).block ≠ _; rw [add_block]; exact hn131_1) | exact hn131_1) (.slice A129_1 ((rd_T47 l0_1 x61_3).f1).length c129_1)).trans hx131_0; replace hx131_1 := (cell_far (p := ⟨gb130, 1, none⟩) (by first | (rw [add_block]; exact hn131_1) | (show (Addr.add _ _).block ≠ _; rw [add_block]; exact hn131_1) | exact hn131_1) (.slice A129_1 ((rd_T47 l0_1 x61_3).f1).length c129_1)).trans hx131_1; (try have hy131_0 := fun (n_ : Nat) => (show ((((w42.drewN n_).setCell ⟨gb130, 0, none⟩ (.slice A129_0 ((rd_T47 l0_1 x61_3).f0).length c129_0)).setCell ⟨gb130, 1, none⟩ (.slice A129_1 ((rd_T47 l0_1 x61_3).f1).length c129_1))).cell? _ = some _ from hx131_0)); (try have hy131_1 := fun (n_ : Nat) => (show ((((w42.drewN n_).setCell ⟨gb130, 0, none⟩ (.slice A129_0 ((rd_T47 l0_1 x61_3).f0).length c129_0)).setCell ⟨gb130, 1, none⟩ (.slice A129_1 ((rd_T47 l0_1 x61_3).f1).length c129_1))).cell? _ = some _ from hx131_1)); clear hn131_0 hn131_1; replace p131 := eq_true p131; replace q131 := eq_true q131) | ((with_reducible refine gate_dst (N := 8) rfl ?_); (try (refine gate_guard (by rfl) ?_; dsimp only)); refine box_event ?hg (N := 8) ?hd (cs := #[.slice none 0 0, .slice none 0 0]) (t := 47) ?hr ?_; (case hd => rfl); (case hg => rfl); (case hr => first | (go_simp; done) | (go_simp; rfl)); intro gb132 hg w48 hbox hb; have n0_ := aA (blk_below (g := gb125) (o := .cells #[.slice A0_0 l0_0.length c0_0, .slice (some ad129) l0_1.length c0_1, .int .i64 a0_2, .int .i64 a0_3] 25 (0, 0)) (by (with_reducible repeat (first | refine blk_drewN ?_ _ | refine blk_drew ?_ | refine blk_alloc ?_ _)); refine blk_far ?_ NB125_130.out _; (with_reducible repeat (first | refine blk_drewN ?_ _ | refine blk_drew ?_ | refine blk_alloc ?_ _)); refine blk_far ?_ NB125_130.out _; (with_reducible repeat (first | refine blk_drewN ?_ _ | refine blk_drew ?_ | refine blk_alloc ?_ _)); exact BK125.out) hb); have n1_ := aA (blk_below (g := gb126) (o := .cells #[.slice A1_0 l1_0.length c1_0, .slice (some ad131) l1_1.length c1_1, .int .i64 a1_2, .int .i64 a1_3] 25 (0, 0)) (by (with_reducible repeat (first | refine blk_drewN ?_ _ | refine blk_drew ?_ | refine blk_alloc ?_ _)); refine blk_far ?_ NB126_130.out _; (with_reducible repeat (first | refine blk_drewN ?_ _ | refine blk_drew ?_ | refine blk_alloc ?_ _)); refine blk_far ?_ NB126_130.out _; (with_reducible repeat (first | refine blk_drewN ?_ _ | refine blk_drew ?_ | refine blk_alloc ?_ _)); exact BK126.out) hb); have n2_ := aA (blk_below (g := gb130) (o := .cells #[.slice A129_0 ((rd_T47 l0_1 x61_3).f0).length c129_0, .slice A129_1 ((rd_T47 l0_1 x61_3).f1).length c129_1] 47 (0, 0)) (by (with_reducible repeat (first | refine blk_drewN ?_ _ | refine blk_drew ?_ | refine blk_alloc ?_ _)); have h_ := BK130.out; exact pK 1 (pK 0 (h_))) hb); have n3_ := aA (below_step (mD3 GE125.out GE126.out GE130.out) hb); have n4_ := aA (hbox); have n5_ := aA ((bZ hg (mD3 GE125.out GE126.out GE130.out))); have n6_ := aA ((bZ hg (mD3 GE125.out GE126.out GE130.out))); have n7_ := aA ((by rw [hg]; exact Nat.ne_of_lt (blk_lt (g := gb125) (o := .cells #[.slice A0_0 l0_0.length c0_0, .slice (some ad129) l0_1.length c0_1, .int .i64 a0_2, .int .i64 a0_3] 25 (0, 0)) (by (with_reducible repeat (first | refine blk_drewN ?_ _ | refine blk_drew ?_ | refine blk_alloc ?_ _)); refine blk_far ?_ NB125_130.out _; (with_reducible repeat (first | refine blk_drewN ?_ _ | refine blk_drew ?_ | refine blk_alloc ?_ _)); refine blk_far ?_ NB125_130.out _; (with_reducible repeat (first | refine blk_drewN ?_ _ | refine blk_drew ?_ | refine blk_alloc ?_ _)); exact BK125.out)) : gb125 ≠ gb132)); have n8_ := aA ((by rw [hg]; exact Nat.ne_of_gt (blk_lt (g := gb125) (o := .cells #[.slice A0_0 l0_0.length c0_0, .slice (some ad129) l0_1.length c0_1, .int .i64 a0_2, .int .i64 a0_3] 25 (0, 0)) (by (with_reducible repeat (first | refine blk_drewN ?_ _ | refine blk_drew ?_ | refine blk_alloc ?_ _)); refine blk_far ?_ NB125_130.out _; (with_reducible repeat (first | refine blk_drewN ?_ _ | refine blk_drew ?_ | refine blk_alloc ?_ _)); refine blk_far ?_ NB125_130.out _; (with_reducible repeat (first | refine blk_drewN ?_ _ | refine blk_drew ?_ | refine blk_alloc ?_ _)); exact BK125.out)) : gb132 ≠ gb125)); have n9_ := aA ((by rw [hg]; exact Nat.ne_of_lt (blk_lt (g := gb126) (o := .cells #[.slice A1_0 l1_0.length c1_0, .slice (some ad131) l1_1.length c1_1, .int .i64 a1_2, .int .i64 a1_3] 25 (0, 0)) (by (with_reducible repeat (first | refine blk_drewN ?_ _ | refine blk_drew ?_ | refine blk_alloc ?_ _)); refine blk_far ?_ NB126_130.out _; (with_reducible repeat (first | refine blk_drewN ?_ _ | refine blk_drew ?_ | refine blk_alloc ?_ _)); refine blk_far ?_ NB126_130.out _; (with_reducible repeat (first | refine blk_drewN ?_ _ | refine blk_drew ?_ | refine blk_alloc ?_ _)); exact BK126.out)) : gb126 ≠ gb132)); have n10_ := aA ((by rw [hg]; exact Nat.ne_of_gt (blk_lt (g := gb126) (o := .cells #[.slice A1_0 l1_0.length c1_0, .slice (some ad131) l1_1.length c1_1, .int .i64 a1_2, .int .i64 a1_3] 25 (0, 0)) (by (with_reducible repeat (first | refine blk_drewN ?_ _ | refine blk_drew ?_ | refine blk_alloc ?_ _)); refine blk_far ?_ NB126_130.out _; (with_reducible repeat (first | refine blk_drewN ?_ _ | refine blk_drew ?_ | refine blk_alloc ?_ _)); refine blk_far ?_ NB126_130.out _; (with_reducible repeat (first | refine blk_drewN ?_ _ | refine blk_drew ?_ | refine blk_alloc ?_ _)); exact BK126.out)) : gb132 ≠ gb126)); have n11_ := aA ((by rw [hg]; exact Nat.ne_of_lt (blk_lt (g := gb130) (o := .cells #[.slice A129_0 ((rd_T47 l0_1 x61_3).f0).length c129_0, .slice A129_1 ((rd_T47 l0_1 x61_3).f1).length c129_1] 47 (0, 0)) (by (with_reducible repeat (first | refine blk_drewN ?_ _ | refine blk_drew ?_ | refine blk_alloc ?_ _)); have h_ := BK130.out; exact pK 1 (pK 0 (h_)))) : gb130 ≠ gb132)); have n12_ := aA ((by rw [hg]; exact Nat.ne_of_gt (blk_lt (g := gb130) (o := .cells #[.slice A129_0 ((rd_T47 l0_1 x61_3).f0).length c129_0, .slice A129_1 ((rd_T47 l0_1 x61_3).f1).length c129_1] 47 (0, 0)) (by (with_reducible repeat (first | refine blk_drewN ?_ _ | refine blk_drew ?_ | refine blk_alloc ?_ _)); have h_ := BK130.out; exact pK 1 (pK 0 (h_)))) : gb132 ≠ gb130)); clear BK125 BK126 BK130 HB; have BK125 := n0_; have BK126 := n1_; have BK130 := n2_; have HB := n3_; have BK132 := n4_; have GW132 := n5_; have GE132 := n6_; have NB125_132 := n7_; have NB132_125 := n8_; have NB126_132 := n9_; have NB132_126 := n10_; have NB130_132 := n11_; have NB132_130 := n12_; clear n0_ n1_ n2_ n3_ n4_ n5_ n6_ n7_ n8_ n9_ n10_ n11_ n12_ hb hbox hg; have hnb49 := NB132_125.out; have hnc49 := NB125_132.out; have hnb50 := NB132_126.out; have hnc50 := NB126_132.out; have hnb51 := NB132_130.out; have hnc51 := NB130_132.out; obtain ⟨hcz52_0, hcz52_1⟩ := bC2 BK132.out; obtain ⟨hfz52_0, hfz52_1⟩ := bF2 BK132.out)); go_upto_region 13 with (first | ((with_reducible refine gate_dst (N := 7) rfl ?_); (try (refine gate_guard (by rfl) ?_; dsimp only)); refine box_event ?hg (N := 7) ?hd (cs := #[.slice none 0 0, .slice none 0 0]) (t := 47) ?hr ?_; (case hd => rfl); (case hg => rfl); (case hr => first | (go_simp; done) | (go_simp; rfl)); intro gb130 hg w42 hbox hb; have n0_ := aA (bB BK125.out hb); have n1_ := aA (bB BK126.out hb); have n2_ := aA (below_step (mD2 GE125.out GE126.out) hb); have n3_ := aA (hbox); have n4_ := aA ((bZ hg (mD2 GE125.out GE126.out))); have n5_ := aA ((bZ hg (mD2 GE125.out GE126.out))); have n6_ := aA ((bL hg BK125.out)); have n7_ := aA ((bG hg BK125.out)); have n8_ := aA ((bL hg BK126.out)); have n9_ := aA ((bG hg BK126.out)); clear BK125 BK126 HB; have BK125 := n0_; have BK126 := n1_; have HB := n2_; have BK130 := n3_; have GW130 := n4_; have GE130 := n5_; have NB125_130 := n6_; have NB130_125 := n7_; have NB126_130 := n8_; have NB130_126 := n9_; clear n0_ n1_ n2_ n3_ n4_ n5_ n6_ n7_ n8_ n9_ hb hbox hg; have hnb43 := NB130_125.out; have hnc43 := NB125_130.out; have hnb44 := NB130_126.out; have hnc44 := NB126_130.out; obtain ⟨hcz45_0, hcz45_1⟩ := bC2 BK130.out; obtain ⟨hfz45_0, hfz45_1⟩ := bF2 BK130.out; have hnb46 := NB126_125.out; have hnc46 := NB125_126.out; obtain ⟨hcz47_0, hcz47_1, hcz47_2, hcz47_3⟩ := bC4 BK126.out; obtain ⟨hfz47_0, hfz47_1, hfz47_2, hfz47_3⟩ := bF4 BK126.out; have p131 : 0 ≤ (x61_3 : Int) := of_decide_eq_true (by first | (with_reducible assumption) | assumption); have q131 : x61_3 < (l1_1.length : Int) := of_decide_eq_true (by first | (with_reducible assumption) | assumption); obtain ⟨ad131, A131_0, c131_0, A131_1, c131_1, e131, hx131_0, hx131_1, hl131_0, hi131_0, hl131_1, hi131_1⟩ := at_T47 HR1_1.out x61_3 p131 q131; cases e131; have hn131_0 : ad131.block ≠ gb130 := Nat.ne_of_lt (Nat.lt_of_lt_of_le (by have := World.block_lt_of_cell? _ _ hx131_0; first | rwa [add_block] at this | exact this) GW130.out); have hn131_1 : ad131.block ≠ gb130 := Nat.ne_of_lt (Nat.lt_of_lt_of_le (by have := World.block_lt_of_cell? _ _ hx131_0; first | rwa [add_block] at this | exact this) GW130.out); replace hx131_0 := (HB.out.cell (World.block_lt_of_cell? w _ hx131_0)).trans hx131_0; replace hx131_1 := (HB.out.cell (World.block_lt_of_cell? w _ hx131_1)).trans hx131_1; have HR131_0 := aA hi131_0; have HC131_0 := aA hl131_0; clear hi131_0 hl131_0; have HR131_1 := aA hi131_1; have HC131_1 := aA hl131_1; clear hi131_1 hl131_1; replace hx131_0 := (cell_far (p := ⟨gb130, 0, none⟩) (by first | (rw [add_block]; exact hn131_0) | (show (Addr.add _ _).block ≠ _; rw [add_block]; exact hn131_0) | exact hn131_0) (.slice A129_0 ((rd_T47 l0_1 x61_3).f0).length c129_0)).trans hx131_0; replace hx131_1 := (cell_far (p := ⟨gb130, 0, none⟩) (by first | (rw [add_block]; exact hn131_0) | (show (Addr.add _ _).block ≠ _; rw [add_block]; exact hn131_0) | exact hn131_0) (.slice A129_0 ((rd_T47 l0_1 x61_3).f0).length c129_0)).trans hx131_1; replace hx131_0 := (cell_far (p := ⟨gb130, 1, none⟩) (by first | (rw [add_block]; exact hn131_1) | (show (Addr.add _ _).block ≠ _; rw [add_block]; exact hn131_1) | exact hn131_1) (.slice A129_1 ((rd_T47 l0_1 x61_3).f1).length c129_1)).trans hx131_0; replace hx131_1 := (cell_far (p := ⟨gb130, 1, none⟩) (by first | (rw [add_block]; exact hn131_1) | (show (Addr.add _ _).block ≠ _; rw [add_block]; exact hn131_1) | exact hn131_1) (.slice A129_1 ((rd_T47 l0_1 x61_3).f1).length c129_1)).trans hx131_1; (try have hy131_0 := fun (n_ : Nat) => (show ((((w42.drewN n_).setCell ⟨gb130, 0, none⟩ (.slice A129_0 ((rd_T47 l0_1 x61_3).f0).length c129_0)).setCell ⟨gb130, 1, none⟩ (.slice A129_1 ((rd_T47 l0_1 x61_3).f1).length c129_1))).cell? _ = some _ from hx131_0)); (try have hy131_1 := fun (n_ : Nat) => (show ((((w42.drewN n_).setCell ⟨gb130, 0, none⟩ (.slice A129_0 ((rd_T47 l0_1 x61_3).f0).length c129_0)).setCell ⟨gb130, 1, none⟩ (.slice A129_1 ((rd_T47 l0_1 x61_3).f1).length c129_1))).cell? _ = some _ from hx131_1)); clear hn131_0 hn131_1; replace p131 := eq_true p131; replace q131 := eq_true q131) | ((with_reducible refine gate_dst (N := 8) rfl ?_); (try (refine gate_guard (by rfl) ?_; dsimp only)); refine box_event ?hg (N := 8) ?hd (cs := #[.slice none 0 0, .slice none 0 0]) (t := 47) ?hr ?_; (case hd => rfl); (case hg => rfl); (case hr => first | (go_simp; done) | (go_simp; rfl)); intro gb132 hg w48 hbox hb; have n0_ := aA (blk_below (g := gb125) (o := .cells #[.slice A0_0 l0_0.length c0_0, .slice (some ad129) l0_1.length c0_1, .int .i64 a0_2, .int .i64 a0_3] 25 (0, 0)) (by (with_reducible repeat (first | refine blk_drewN ?_ _ | refine blk_drew ?_ | refine blk_alloc ?_ _)); refine blk_far ?_ NB125_130.out _; (with_reducible repeat (first | refine blk_drewN ?_ _ | refine blk_drew ?_ | refine blk_alloc ?_ _)); refine blk_far ?_ NB125_130.out _; (with_reducible repeat (first | refine blk_drewN ?_ _ | refine blk_drew ?_ | refine blk_alloc ?_ _)); exact BK125.out) hb); have n1_ := aA (blk_below (g := gb126) (o := .cells #[.slice A1_0 l1_0.length c1_0, .slice (some ad131) l1_1.length c1_1, .int .i64 a1_2, .int .i64 a1_3] 25 (0, 0)) (by (with_reducible repeat (first | refine blk_drewN ?_ _ | refine blk_drew ?_ | refine blk_alloc ?_ _)); refine blk_far ?_ NB126_130.out _; (with_reducible repeat (first | refine blk_drewN ?_ _ | refine blk_drew ?_ | refine blk_alloc ?_ _)); refine blk_far ?_ NB126_130.out _; (with_reducible repeat (first | refine blk_drewN ?_ _ | refine blk_drew ?_ | refine blk_alloc ?_ _)); exact BK126.out) hb); have n2_ := aA (blk_below (g := gb130) (o := .cells #[.slice A129_0 ((rd_T47 l0_1 x61_3).f0).length c129_0, .slice A129_1 ((rd_T47 l0_1 x61_3).f1).length c129_1] 47 (0, 0)) (by (with_reducible repeat (first | refine blk_drewN ?_ _ | refine blk_drew ?_ | refine blk_alloc ?_ _)); have h_ := BK130.out; exact pK 1 (pK 0 (h_))) hb); have n3_ := aA (below_step (mD3 GE125.out GE126.out GE130.out) hb); have n4_ := aA (hbox); have n5_ := aA ((bZ hg (mD3 GE125.out GE126.out GE130.out))); have n6_ := aA ((bZ hg (mD3 GE125.out GE126.out GE130.out))); have n7_ := aA ((by rw [hg]; exact Nat.ne_of_lt (blk_lt (g := gb125) (o := .cells #[.slice A0_0 l0_0.length c0_0, .slice (some ad129) l0_1.length c0_1, .int .i64 a0_2, .int .i64 a0_3] 25 (0, 0)) (by (with_reducible repeat (first | refine blk_drewN ?_ _ | refine blk_drew ?_ | refine blk_alloc ?_ _)); refine blk_far ?_ NB125_130.out _; (with_reducible repeat (first | refine blk_drewN ?_ _ | refine blk_drew ?_ | refine blk_alloc ?_ _)); refine blk_far ?_ NB125_130.out _; (with_reducible repeat (first | refine blk_drewN ?_ _ | refine blk_drew ?_ | refine blk_alloc ?_ _)); exact BK125.out)) : gb125 ≠ gb132)); have n8_ := aA ((by rw [hg]; exact Nat.ne_of_gt (blk_lt (g := gb125) (o := .cells #[.slice A0_0 l0_0.length c0_0, .slice (some ad129) l0_1.length c0_1, .int .i64 a0_2, .int .i64 a0_3] 25 (0, 0)) (by (with_reducible repeat (first | refine blk_drewN ?_ _ | refine blk_drew ?_ | refine blk_alloc ?_ _)); refine blk_far ?_ NB125_130.out _; (with_reducible repeat (first | refine blk_drewN ?_ _ | refine blk_drew ?_ | refine blk_alloc ?_ _)); refine blk_far ?_ NB125_130.out _; (with_reducible repeat (first | refine blk_drewN ?_ _ | refine blk_drew ?_ | refine blk_alloc ?_ _)); exact BK125.out)) : gb132 ≠ gb125)); have n9_ := aA ((by rw [hg]; exact Nat.ne_of_lt (blk_lt (g := gb126) (o := .cells #[.slice A1_0 l1_0.length c1_0, .slice (some ad131) l1_1.length c1_1, .int .i64 a1_2, .int .i64 a1_3] 25 (0, 0)) (by (with_reducible repeat (first | refine blk_drewN ?_ _ | refine blk_drew ?_ | refine blk_alloc ?_ _)); refine blk_far ?_ NB126_130.out _; (with_reducible repeat (first | refine blk_drewN ?_ _ | refine blk_drew ?_ | refine blk_alloc ?_ _)); refine blk_far ?_ NB126_130.out _; (with_reducible repeat (first | refine blk_drewN ?_ _ | refine blk_drew ?_ | refine blk_alloc ?_ _)); exact BK126.out)) : gb126 ≠ gb132)); have n10_ := aA ((by rw [hg]; exact Nat.ne_of_gt (blk_lt (g := gb126) (o := .cells #[.slice A1_0 l1_0.length c1_0, .slice (some ad131) l1_1.length c1_1, .int .i64 a1_2, .int .i64 a1_3] 25 (0, 0)) (by (with_reducible repeat (first | refine blk_drewN ?_ _ | refine blk_drew ?_ | refine blk_alloc ?_ _)); refine blk_far ?_ NB126_130.out _; (with_reducible repeat (first | refine blk_drewN ?_ _ | refine blk_drew ?_ | refine blk_alloc ?_ _)); refine blk_far ?_ NB126_130.out _; (with_reducible repeat (first | refine blk_drewN ?_ _ | refine blk_drew ?_ | refine blk_alloc ?_ _)); exact BK126.out)) : gb132 ≠ gb126)); have n11_ := aA ((by rw [hg]; exact Nat.ne_of_lt (blk_lt (g := gb130) (o := .cells #[.slice A129_0 ((rd_T47 l0_1 x61_3).f0).length c129_0, .slice A129_1 ((rd_T47 l0_1 x61_3).f1).length c129_1] 47 (0, 0)) (by (with_reducible repeat (first | refine blk_drewN ?_ _ | refine blk_drew ?_ | refine blk_alloc ?_ _)); have h_ := BK130.out; exact pK 1 (pK 0 (h_)))) : gb130 ≠ gb132)); have n12_ := aA ((by rw [hg]; exact Nat.ne_of_gt (blk_lt (g := gb130) (o := .cells #[.slice A129_0 ((rd_T47 l0_1 x61_3).f0).length c129_0, .slice A129_1 ((rd_T47 l0_1 x61_3).f1).length c129_1] 47 (0, 0)) (by (with_reducible repeat (first | refine blk_drewN ?_ _ | refine blk_drew ?_ | refine blk_alloc ?_ _)); have h_ := BK130.out; exact pK 1 (pK 0 (h_)))) : gb132 ≠ gb130)); clear BK125 BK126 BK130 HB; have BK125 := n0_; have BK126 := n1_; have BK130 := n2_; have HB := n3_; have BK132 := n4_; have GW132 := n5_; have GE132 := n6_; have NB125_132 := n7_; have NB132_125 := n8_; have NB126_132 := n9_; have NB132_126 := n10_; have NB130_132 := n11_; have NB132_130 := n12_; clear n0_ n1_ n2_ n3_ n4_ n5_ n6_ n7_ n8_ n9_ n10_ n11_ n12_ hb hbox hg; have hnb49 := NB132_125.out; have hnc49 := NB125_132.out; have hnb50 := NB132_126.out; have hnc50 := NB126_132.out; have hnb51 := NB132_130.out; have hnc51 := NB130_132.out; obtain ⟨hcz52_0, hcz52_1⟩ := bC2 BK132.out; obtain ⟨hfz52_0, hfz52_1⟩ := bF2 BK132.out)))
             (try simp only [Act.put, List.setIfInBounds_toArray, List.set_cons_zero, List.set_cons_succ])
             go_cut [85] (fun v85 wc => ∃ (kq : Nat) (x85_40 : Bool), v85 = .bool x85_40 ∧ Aside0 (foghornref13_Same.j3 kq l0_1 (l0_1.length : Int) x61_3 x85_40 l1_0 l1_1 a1_2 a1_3 ((rd_T47 l0_1 x61_3).f0) ((rd_T47 l0_1 x61_3).f1) ((rd_T47 l1_1 x61_3).f0) ((rd_T47 l1_1 x61_3).f1) = some r) ∧ Aside0 (kq ≤ k3) ∧ Aside0 (wc.heap[gb125]? = some (.cells #[(.slice A0_0 l0_0.length c0_0), (.slice (some ad129) l0_1.length c0_1), .int .i64 a0_2, .int .i64 a0_3] 25 (0, 0))) ∧ Aside0 (wc.heap[gb126]? = some (.cells #[(.slice A1_0 l1_0.length c1_0), (.slice (some ad131) l1_1.length c1_1), .int .i64 a1_2, .int .i64 a1_3] 25 (0, 0))) ∧ Aside0 (wc.heap[gb130]? = some (.cells #[(.slice A129_0 ((rd_T47 l0_1 x61_3).f0).length c129_0), (.slice A129_1 ((rd_T47 l0_1 x61_3).f1).length c129_1)] 47 (0, 0))) ∧ Aside0 (wc.heap[gb132]? = some (.cells #[(.slice A131_0 ((rd_T47 l1_1 x61_3).f0).length c131_0), (.slice A131_1 ((rd_T47 l1_1 x61_3).f1).length c131_1)] 47 (0, 0))) ∧ Aside0 (Below w.heap.size w wc))
             case first =>
              have H := HC41.out
              clear HC41
              replace H := Option.bind_eq_some_iff.mp H
              obtain ⟨t133, A530, H⟩ := H
              have A53 := aA A530
              clear A530
              by_cases c54 : t133 = true
              ·subst c54
               have H1 : (foghornref13_Same.j3 k3 l0_1 (l0_1.length : Int) x61_3 ((((rd_T47 l0_1 x61_3).f0).length : Int) != (((rd_T47 l1_1 x61_3).f0).length : Int)) l1_0 l1_1 a1_2 a1_3 ((rd_T47 l0_1 x61_3).f0) ((rd_T47 l0_1 x61_3).f1) ((rd_T47 l1_1 x61_3).f0) ((rd_T47 l1_1 x61_3).f1)) = some r := by rw [if_pos rfl] at H; exact H
               clear H
               have H := H1
               clear H1
               have H' := aA H
               clear H
               have hnb55 := NB130_125.out
               have hnc55 := NB125_130.out
               have hnb56 := NB130_126.out
               have hnc56 := NB126_130.out
               have hnb57 := NB130_132.out
               have hnc57 := NB132_130.out
               obtain ⟨hcz58_0, hcz58_1⟩ := bC2 BK130.out
               obtain ⟨hfz58_0, hfz58_1⟩ := bF2 BK130.out
               have hnb59 := NB132_125.out
               have hnc59 := NB125_132.out
               have hnb60 := NB132_126.out
               have hnc60 := NB126_132.out
               obtain ⟨hcz61_0, hcz61_1⟩ := bC2 BK132.out
               obtain ⟨hfz61_0, hfz61_1⟩ := bF2 BK132.out
               go_wp2_with (first | (go_at_call 11; (with_reducible refine (foghornref10_Asked.calls k3 _ _ ((rd_T47 l0_1 x61_3).f1) _ _ ((rd_T47 l1_1 x61_3).f1) true _ ?side1 ?side2 ?side3 ?side4 A53.out).mono ?_); (case side1 => exact Kd.C_below HR129_1.out (by repeat (first | (with_reducible first | exact HB.out | apply below_alloc | apply pw_below_drewN | apply below_drew1 | refine below_set ?_ GE125.out | refine below_set ?_ GE126.out | refine below_set ?_ GE130.out | refine below_set ?_ GE132.out) | exact HB.out))); (case side2 => exact HC129_1.out); (case side3 => exact Kd.C_below HR131_1.out (by repeat (first | (with_reducible first | exact HB.out | apply below_alloc | apply pw_below_drewN | apply below_drew1 | refine below_set ?_ GE125.out | refine below_set ?_ GE126.out | refine below_set ?_ GE130.out | refine below_set ?_ GE132.out) | exact HB.out))); (case side4 => exact HC131_1.out); rintro e w' ⟨rfl, ⟨nd, rfl⟩⟩; (try first | exact ⟨rfl, _, World.drewN_drewN _ _ _⟩ | exact ⟨rfl, _, Eq.trans (World.drewN_drewN _ _ _) (congrArg (World.drewN _) (Nat.add_assoc _ _ _))⟩)))
               repeat (go_quiet (first | (go_at_call 11; (with_reducible refine (foghornref10_Asked.calls k3 _ _ ((rd_T47 l0_1 x61_3).f1) _ _ ((rd_T47 l1_1 x61_3).f1) true _ ?side1 ?side2 ?side3 ?side4 A53.out).mono ?_); (case side1 => exact Kd.C_below HR129_1.out (by repeat (first | (with_reducible first | exact HB.out | apply below_alloc | apply pw_below_drewN | apply below_drew1 | refine below_set ?_ GE125.out | refine below_set ?_ GE126.out | refine below_set ?_ GE130.out | refine below_set ?_ GE132.out) | exact HB.out))); (case side2 => exact HC129_1.out); (case side3 => exact Kd.C_below HR131_1.out (by repeat (first | (with_reducible first | exact HB.out | apply below_alloc | apply pw_below_drewN | apply below_drew1 | refine below_set ?_ GE125.out | refine below_set ?_ GE126.out | refine below_set ?_ GE130.out | refine below_set ?_ GE132.out) | exact HB.out))); (case side4 => exact HC131_1.out); rintro e w' ⟨rfl, ⟨nd, rfl⟩⟩; (try first | exact ⟨rfl, _, World.drewN_drewN _ _ _⟩ | exact ⟨rfl, _, Eq.trans (World.drewN_drewN _ _ _) (congrArg (World.drewN _) (Nat.add_assoc _ _ _))⟩))); try go_wp2_with (first | (go_at_call 11; (with_reducible refine (foghornref10_Asked.calls k3 _ _ ((rd_T47 l0_1 x61_3).f1) _ _ ((rd_T47 l1_1 x61_3).f1) true _ ?side1 ?side2 ?side3 ?side4 A53.out).mono ?_); (case side1 => exact Kd.C_below HR129_1.out (by repeat (first | (with_reducible first | exact HB.out | apply below_alloc | apply pw_below_drewN | apply below_drew1 | refine below_set ?_ GE125.out | refine below_set ?_ GE126.out | refine below_set ?_ GE130.out | refine below_set ?_ GE132.out) | exact HB.out))); (case side2 => exact HC129_1.out); (case side3 => exact Kd.C_below HR131_1.out (by repeat (first | (with_reducible first | exact HB.out | apply below_alloc | apply pw_below_drewN | apply below_drew1 | refine below_set ?_ GE125.out | refine below_set ?_ GE126.out | refine below_set ?_ GE130.out | refine below_set ?_ GE132.out) | exact HB.out))); (case side4 => exact HC131_1.out); rintro e w' ⟨rfl, ⟨nd, rfl⟩⟩; (try first | exact ⟨rfl, _, World.drewN_drewN _ _ _⟩ | exact ⟨rfl, _, Eq.trans (World.drewN_drewN _ _ _) (congrArg (World.drewN _) (Nat.add_assoc _ _ _))⟩))))
               go_meet
               case rel => exact ⟨_, (((((rd_T47 l0_1 x61_3).f0).length : Int) != (((rd_T47 l1_1 x61_3).f0).length : Int))), (by first | rfl | (simp; done) | (simp [*]; done)), H', ⟨by have := HJ2.out; have := HK2.out; have := HK3.out; first | omega | exact Nat.le_refl _⟩, ⟨by (with_reducible repeat (first | refine blk_drewN ?_ _ | refine blk_drew ?_ | refine blk_alloc ?_ _)); refine blk_far ?_ NB125_132.out _; (with_reducible repeat (first | refine blk_drewN ?_ _ | refine blk_drew ?_ | refine blk_alloc ?_ _)); refine blk_far ?_ NB125_132.out _; (with_reducible repeat (first | refine blk_drewN ?_ _ | refine blk_drew ?_ | refine blk_alloc ?_ _)); exact BK125.out⟩, ⟨by (with_reducible repeat (first | refine blk_drewN ?_ _ | refine blk_drew ?_ | refine blk_alloc ?_ _)); refine blk_far ?_ NB126_132.out _; (with_reducible repeat (first | refine blk_drewN ?_ _ | refine blk_drew ?_ | refine blk_alloc ?_ _)); refine blk_far ?_ NB126_132.out _; (with_reducible repeat (first | refine blk_drewN ?_ _ | refine blk_drew ?_ | refine blk_alloc ?_ _)); exact BK126.out⟩, ⟨by (with_reducible repeat (first | refine blk_drewN ?_ _ | refine blk_drew ?_ | refine blk_alloc ?_ _)); refine blk_far ?_ NB130_132.out _; (with_reducible repeat (first | refine blk_drewN ?_ _ | refine blk_drew ?_ | refine blk_alloc ?_ _)); refine blk_far ?_ NB130_132.out _; (with_reducible repeat (first | refine blk_drewN ?_ _ | refine blk_drew ?_ | refine blk_alloc ?_ _)); exact BK130.out⟩, ⟨by (with_reducible repeat (first | refine blk_drewN ?_ _ | refine blk_drew ?_ | refine blk_alloc ?_ _)); refine blk_put (cs := #[.slice A131_0 ((rd_T47 l1_1 x61_3).f0).length c131_0, .slice none 0 0]) ?_ 1 _ rfl; (with_reducible repeat (first | refine blk_drewN ?_ _ | refine blk_drew ?_ | refine blk_alloc ?_ _)); refine blk_put (cs := #[.slice none 0 0, .slice none 0 0]) ?_ 0 _ rfl; (with_reducible repeat (first | refine blk_drewN ?_ _ | refine blk_drew ?_ | refine blk_alloc ?_ _)); exact BK132.out⟩, ⟨by repeat (first | (with_reducible first | exact HB.out | apply below_alloc | apply pw_below_drewN | apply below_drew1 | refine below_set ?_ GE125.out | refine below_set ?_ GE126.out | refine below_set ?_ GE130.out | refine below_set ?_ GE132.out) | exact HB.out)⟩⟩
              ·replace c54 := Bool.eq_false_iff.mpr c54
               subst c54
               have H1 : (foghornref13_Same.j3 k3 l0_1 (l0_1.length : Int) x61_3 true l1_0 l1_1 a1_2 a1_3 ((rd_T47 l0_1 x61_3).f0) ((rd_T47 l0_1 x61_3).f1) ((rd_T47 l1_1 x61_3).f0) ((rd_T47 l1_1 x61_3).f1)) = some r := by rw [if_neg (show ¬ (false = true) by decide)] at H; exact H
               clear H
               have H := H1
               clear H1
               have H' := aA H
               clear H
               have hnb62 := NB130_125.out
               have hnc62 := NB125_130.out
               have hnb63 := NB130_126.out
               have hnc63 := NB126_130.out
               have hnb64 := NB130_132.out
               have hnc64 := NB132_130.out
               obtain ⟨hcz65_0, hcz65_1⟩ := bC2 BK130.out
               obtain ⟨hfz65_0, hfz65_1⟩ := bF2 BK130.out
               have hnb66 := NB132_125.out
               have hnc66 := NB125_132.out
               have hnb67 := NB132_126.out
               have hnc67 := NB126_132.out
               obtain ⟨hcz68_0, hcz68_1⟩ := bC2 BK132.out
               obtain ⟨hfz68_0, hfz68_1⟩ := bF2 BK132.out
               go_wp2_with (first | (go_at_call 11; (with_reducible refine (foghornref10_Asked.calls k3 _ _ ((rd_T47 l0_1 x61_3).f1) _ _ ((rd_T47 l1_1 x61_3).f1) false _ ?side1 ?side2 ?side3 ?side4 A53.out).mono ?_); (case side1 => exact Kd.C_below HR129_1.out (by repeat (first | (with_reducible first | exact HB.out | apply below_alloc | apply pw_below_drewN | apply below_drew1 | refine below_set ?_ GE125.out | refine below_set ?_ GE126.out | refine below_set ?_ GE130.out | refine below_set ?_ GE132.out) | exact HB.out))); (case side2 => exact HC129_1.out); (case side3 => exact Kd.C_below HR131_1.out (by repeat (first | (with_reducible first | exact HB.out | apply below_alloc | apply pw_below_drewN | apply below_drew1 | refine below_set ?_ GE125.out | refine below_set ?_ GE126.out | refine below_set ?_ GE130.out | refine below_set ?_ GE132.out) | exact HB.out))); (case side4 => exact HC131_1.out); rintro e w' ⟨rfl, ⟨nd, rfl⟩⟩; (try first | exact ⟨rfl, _, World.drewN_drewN _ _ _⟩ | exact ⟨rfl, _, Eq.trans (World.drewN_drewN _ _ _) (congrArg (World.drewN _) (Nat.add_assoc _ _ _))⟩)))
               repeat (go_quiet (first | (go_at_call 11; (with_reducible refine (foghornref10_Asked.calls k3 _ _ ((rd_T47 l0_1 x61_3).f1) _ _ ((rd_T47 l1_1 x61_3).f1) false _ ?side1 ?side2 ?side3 ?side4 A53.out).mono ?_); (case side1 => exact Kd.C_below HR129_1.out (by repeat (first | (with_reducible first | exact HB.out | apply below_alloc | apply pw_below_drewN | apply below_drew1 | refine below_set ?_ GE125.out | refine below_set ?_ GE126.out | refine below_set ?_ GE130.out | refine below_set ?_ GE132.out) | exact HB.out))); (case side2 => exact HC129_1.out); (case side3 => exact Kd.C_below HR131_1.out (by repeat (first | (with_reducible first | exact HB.out | apply below_alloc | apply pw_below_drewN | apply below_drew1 | refine below_set ?_ GE125.out | refine below_set ?_ GE126.out | refine below_set ?_ GE130.out | refine below_set ?_ GE132.out) | exact HB.out))); (case side4 => exact HC131_1.out); rintro e w' ⟨rfl, ⟨nd, rfl⟩⟩; (try first | exact ⟨rfl, _, World.drewN_drewN _ _ _⟩ | exact ⟨rfl, _, Eq.trans (World.drewN_drewN _ _ _) (congrArg (World.drewN _) (Nat.add_assoc _ _ _))⟩))); try go_wp2_with (first | (go_at_call 11; (with_reducible refine (foghornref10_Asked.calls k3 _ _ ((rd_T47 l0_1 x61_3).f1) _ _ ((rd_T47 l1_1 x61_3).f1) false _ ?side1 ?side2 ?side3 ?side4 A53.out).mono ?_); (case side1 => exact Kd.C_below HR129_1.out (by repeat (first | (with_reducible first | exact HB.out | apply below_alloc | apply pw_below_drewN | apply below_drew1 | refine below_set ?_ GE125.out | refine below_set ?_ GE126.out | refine below_set ?_ GE130.out | refine below_set ?_ GE132.out) | exact HB.out))); (case side2 => exact HC129_1.out); (case side3 => exact Kd.C_below HR131_1.out (by repeat (first | (with_reducible first | exact HB.out | apply below_alloc | apply pw_below_drewN | apply below_drew1 | refine below_set ?_ GE125.out | refine below_set ?_ GE126.out | refine below_set ?_ GE130.out | refine below_set ?_ GE132.out) | exact HB.out))); (case side4 => exact HC131_1.out); rintro e w' ⟨rfl, ⟨nd, rfl⟩⟩; (try first | exact ⟨rfl, _, World.drewN_drewN _ _ _⟩ | exact ⟨rfl, _, Eq.trans (World.drewN_drewN _ _ _) (congrArg (World.drewN _) (Nat.add_assoc _ _ _))⟩))))
               go_meet
               case rel => exact ⟨_, (true), (by first | rfl | (simp; done) | (simp [*]; done)), H', ⟨by have := HJ2.out; have := HK2.out; have := HK3.out; first | omega | exact Nat.le_refl _⟩, ⟨by (with_reducible repeat (first | refine blk_drewN ?_ _ | refine blk_drew ?_ | refine blk_alloc ?_ _)); refine blk_far ?_ NB125_132.out _; (with_reducible repeat (first | refine blk_drewN ?_ _ | refine blk_drew ?_ | refine blk_alloc ?_ _)); refine blk_far ?_ NB125_132.out _; (with_reducible repeat (first | refine blk_drewN ?_ _ | refine blk_drew ?_ | refine blk_alloc ?_ _)); exact BK125.out⟩, ⟨by (with_reducible repeat (first | refine blk_drewN ?_ _ | refine blk_drew ?_ | refine blk_alloc ?_ _)); refine blk_far ?_ NB126_132.out _; (with_reducible repeat (first | refine blk_drewN ?_ _ | refine blk_drew ?_ | refine blk_alloc ?_ _)); refine blk_far ?_ NB126_132.out _; (with_reducible repeat (first | refine blk_drewN ?_ _ | refine blk_drew ?_ | refine blk_alloc ?_ _)); exact BK126.out⟩, ⟨by (with_reducible repeat (first | refine blk_drewN ?_ _ | refine blk_drew ?_ | refine blk_alloc ?_ _)); refine blk_far ?_ NB130_132.out _; (with_reducible repeat (first | refine blk_drewN ?_ _ | refine blk_drew ?_ | refine blk_alloc ?_ _)); refine blk_far ?_ NB130_132.out _; (with_reducible repeat (first | refine blk_drewN ?_ _ | refine blk_drew ?_ | refine blk_alloc ?_ _)); exact BK130.out⟩, ⟨by (with_reducible repeat (first | refine blk_drewN ?_ _ | refine blk_drew ?_ | refine blk_alloc ?_ _)); refine blk_put (cs := #[.slice A131_0 ((rd_T47 l1_1 x61_3).f0).length c131_0, .slice none 0 0]) ?_ 1 _ rfl; (with_reducible repeat (first | refine blk_drewN ?_ _ | refine blk_drew ?_ | refine blk_alloc ?_ _)); refine blk_put (cs := #[.slice none 0 0, .slice none 0 0]) ?_ 0 _ rfl; (with_reducible repeat (first | refine blk_drewN ?_ _ | refine blk_drew ?_ | refine blk_alloc ?_ _)); exact BK132.out⟩, ⟨by repeat (first | (with_reducible first | exact HB.out | apply below_alloc | apply pw_below_drewN | apply below_drew1 | refine below_set ?_ GE125.out | refine below_set ?_ GE126.out | refine below_set ?_ GE130.out | refine below_set ?_ GE132.out) | exact HB.out)⟩⟩
             case rest =>
              clear HC41
              try clear c1
              try clear p1
              try clear q1
              try clear hx1
              try clear c2
              try clear p2
              try clear c3
              try clear c4
              try clear c5
              try clear c6
              try clear c6b0
              try clear c6b1
              try clear c6b2
              try clear p6
              try clear c7
              try clear c7b0
              try clear c7b1
              try clear c7b2
              try clear c8
              try clear c8b0
              try clear c8b1
              try clear c9
              try clear c12
              try clear p12
              try clear q12
              try clear hx12
              try clear c13
              try clear p13
              try clear q13
              try clear hx13
              try clear c15
              try clear c18
              try clear c21
              try clear c22
              try clear c24
              try clear c24b0
              try clear c25
              try clear c25b0
              try clear c26
              try clear c26b0
              try clear c27
              try clear c27b0
              try clear c28
              try clear c28b0
              try clear c29
              try clear c32
              try clear c35
              try clear c37
              try clear c37b0
              try clear c38
              try clear c38b0
              try clear c39
              try clear c39b0
              try clear c40
              try clear c40b0
              try clear c43
              try clear c44
              try clear c46
              try clear c49
              try clear c50
              try clear c51
              try clear c54
              try clear c55
              try clear c56
              try clear c57
              try clear c59
              try clear c60
              try clear c62
              try clear c63
              try clear c64
              try clear p64
              try clear c66
              try clear c67
              try clear hcz10_0 hcz10_1 hcz10_2 hcz10_3
              try clear hcz11_0 hcz11_1 hcz11_2 hcz11_3
              try clear hcz13_0 hcz13_1 hcz13_2 hcz13_3
              try clear hcz14_0 hcz14_1 hcz14_2 hcz14_3
              try clear hcz16_0 hcz16_1 hcz16_2 hcz16_3
              try clear hcz17_0 hcz17_1 hcz17_2 hcz17_3
              try clear hcz19_0 hcz19_1 hcz19_2 hcz19_3
              try clear hcz20_0 hcz20_1 hcz20_2 hcz20_3
              try clear hcz23_0 hcz23_1 hcz23_2 hcz23_3
              try clear hcz30_0 hcz30_1 hcz30_2 hcz30_3
              try clear hcz31_0 hcz31_1 hcz31_2 hcz31_3
              try clear hcz33_0 hcz33_1 hcz33_2 hcz33_3
              try clear hcz34_0 hcz34_1 hcz34_2 hcz34_3
              try clear hcz36_0 hcz36_1 hcz36_2 hcz36_3
              try clear hcz45_0 hcz45_1
              try clear hcz47_0 hcz47_1 hcz47_2 hcz47_3
              try clear hcz52_0 hcz52_1
              try clear hcz58_0 hcz58_1
              try clear hcz61_0 hcz61_1
              try clear hcz65_0 hcz65_1
              try clear hcz68_0 hcz68_1
              try clear hfz10_0 hfz10_1 hfz10_2 hfz10_3
              try clear hfz11_0 hfz11_1 hfz11_2 hfz11_3
              try clear hfz13_0 hfz13_1 hfz13_2 hfz13_3
              try clear hfz14_0 hfz14_1 hfz14_2 hfz14_3
              try clear hfz16_0 hfz16_1 hfz16_2 hfz16_3
              try clear hfz17_0 hfz17_1 hfz17_2 hfz17_3
              try clear hfz19_0 hfz19_1 hfz19_2 hfz19_3
              try clear hfz20_0 hfz20_1 hfz20_2 hfz20_3
              try clear hfz23_0 hfz23_1 hfz23_2 hfz23_3
              try clear hfz30_0 hfz30_1 hfz30_2 hfz30_3
              try clear hfz31_0 hfz31_1 hfz31_2 hfz31_3
              try clear hfz33_0 hfz33_1 hfz33_2 hfz33_3
              try clear hfz34_0 hfz34_1 hfz34_2 hfz34_3
              try clear hfz36_0 hfz36_1 hfz36_2 hfz36_3
              try clear hfz45_0 hfz45_1
              try clear hfz47_0 hfz47_1 hfz47_2 hfz47_3
              try clear hfz52_0 hfz52_1
              try clear hfz58_0 hfz58_1
              try clear hfz61_0 hfz61_1
              try clear hfz65_0 hfz65_1
              try clear hfz68_0 hfz68_1
              try clear hx127_0
              try clear hx127_1
              try clear hx127_2
              try clear hx127_3
              try clear hx127_4
              try clear hx127_5
              try clear hx127_6
              try clear hx127_7
              try clear hx127_8
              try clear hx128_0
              try clear hx128_1
              try clear hx128_2
              try clear hx128_3
              try clear hx128_4
              try clear hx128_5
              try clear hx128_6
              try clear hx128_7
              try clear hx128_8
              try clear hx129_0
              try clear hx129_1
              try clear hx131_0
              try clear hx131_1
              try clear p1
              try clear p12
              try clear p127
              try clear p128
              try clear p129
              try clear p131
              try clear p2
              try clear p6
              try clear q1
              try clear q12
              try clear q127
              try clear q128
              try clear q129
              try clear q131
              obtain ⟨kq, x85_40, rfl, HA, HJ40, BK125, BK126, BK130, BK132, HB⟩ := hcut
              cases kq with
              | zero => exact absurd HA.out (by simp [foghornref13_Same.j3])
              | succ kj40 =>
               have H := HA.out
               clear HA
               simp only [foghornref13_Same.j3] at H
               by_cases c69 : x85_40 = true
               ·subst c69
                have H1 : (some false) = some r := by rw [if_pos rfl] at H; exact H
                clear H
                have H := H1
                clear H1
                obtain rfl := Option.some.inj H
                go_wp2
                repeat (go_quiet (fail); try go_wp2)
                go_ret
                exact ⟨by first | rfl | (simp [errW_none, errW_some] <;> rfl) | (simp [*, errW_none, errW_some] <;> rfl), by repeat (first | (with_reducible first | exact HB.out | apply below_alloc | apply pw_below_drewN | apply below_drew1 | refine below_set ?_ GE125.out | refine below_set ?_ GE126.out | refine below_set ?_ GE130.out | refine below_set ?_ GE132.out) | exact HB.out)⟩
               ·replace c69 := Bool.eq_false_iff.mpr c69
                subst c69
                have H1 : (foghornref13_Same.l2 kj40 l0_1 (l0_1.length : Int) x61_3 (((rd_T47 l0_1 x61_3).f0).length : Int) 0 l1_0 l1_1 a1_2 a1_3 ((rd_T47 l0_1 x61_3).f0) ((rd_T47 l0_1 x61_3).f1) ((rd_T47 l1_1 x61_3).f0) ((rd_T47 l1_1 x61_3).f1)) = some r := by rw [if_neg (show ¬ (false = true) by decide)] at H; exact H
                clear H
                have H := H1
                clear H1
                have H' := aA H
                clear H
                have hnb70 := NB130_125.out
                have hnc70 := NB125_130.out
                have hnb71 := NB130_126.out
                have hnc71 := NB126_130.out
                have hnb72 := NB130_132.out
                have hnc72 := NB132_130.out
                obtain ⟨hcz73_0, hcz73_1⟩ := bC2 BK130.out
                obtain ⟨hfz73_0, hfz73_1⟩ := bF2 BK130.out
                go_wp2
                repeat (go_quiet (fail); try go_wp2)
                go_loopg [89] kj40 (fun kq v89 w' => ∃ (x89_5 : Int), v89 = .int .i64 x89_5 ∧ Aside0 (foghornref13_Same.l2 kq l0_1 (l0_1.length : Int) x61_3 (((rd_T47 l0_1 x61_3).f0).length : Int) x89_5 l1_0 l1_1 a1_2 a1_3 ((rd_T47 l0_1 x61_3).f0) ((rd_T47 l0_1 x61_3).f1) ((rd_T47 l1_1 x61_3).f0) ((rd_T47 l1_1 x61_3).f1) = some r) ∧ Aside0 (kq ≤ kj40) ∧ Aside0 (w'.heap[gb125]? = some (.cells #[(.slice A0_0 l0_0.length c0_0), (.slice (some ad129) l0_1.length c0_1), .int .i64 a0_2, .int .i64 a0_3] 25 (0, 0))) ∧ Aside0 (w'.heap[gb126]? = some (.cells #[(.slice A1_0 l1_0.length c1_0), (.slice (some ad131) l1_1.length c1_1), .int .i64 a1_2, .int .i64 a1_3] 25 (0, 0))) ∧ Aside0 (w'.heap[gb130]? = some (.cells #[(.slice A129_0 ((rd_T47 l0_1 x61_3).f0).length c129_0), (.slice A129_1 ((rd_T47 l0_1 x61_3).f1).length c129_1)] 47 (0, 0))) ∧ Aside0 (w'.heap[gb132]? = some (.cells #[(.slice A131_0 ((rd_T47 l1_1 x61_3).f0).length c131_0), (.slice A131_1 ((rd_T47 l1_1 x61_3).f1).length c131_1)] 47 (0, 0))) ∧ Aside0 (Below w.heap.size w w'))
                case atStart => exact ⟨(0), (by first | rfl | (simp; done) | (simp [*]; done)), H', ⟨Nat.le_refl _⟩, ⟨by (with_reducible repeat (first | refine blk_drewN ?_ _ | refine blk_drew ?_ | refine blk_alloc ?_ _)); exact BK125.out⟩, ⟨by (with_reducible repeat (first | refine blk_drewN ?_ _ | refine blk_drew ?_ | refine blk_alloc ?_ _)); exact BK126.out⟩, ⟨by (with_reducible repeat (first | refine blk_drewN ?_ _ | refine blk_drew ?_ | refine blk_alloc ?_ _)); exact BK130.out⟩, ⟨by (with_reducible repeat (first | refine blk_drewN ?_ _ | refine blk_drew ?_ | refine blk_alloc ?_ _)); exact BK132.out⟩, ⟨by repeat (first | (with_reducible first | exact HB.out | apply below_alloc | apply pw_below_drewN | apply below_drew1 | refine below_set ?_ GE125.out | refine below_set ?_ GE126.out | refine below_set ?_ GE130.out | refine below_set ?_ GE132.out) | exact HB.out)⟩⟩
                case round =>
                 clear H'
                 try clear c1
                 try clear p1
                 try clear q1
                 try clear hx1
                 try clear c2
                 try clear p2
                 try clear c3
                 try clear c4
                 try clear c5
                 try clear c6
                 try clear c6b0
                 try clear c6b1
                 try clear c6b2
                 try clear p6
                 try clear c7
                 try clear c7b0
                 try clear c7b1
                 try clear c7b2
                 try clear c8
                 try clear c8b0
                 try clear c8b1
                 try clear c9
                 try clear c12
                 try clear p12
                 try clear q12
                 try clear hx12
                 try clear c13
                 try clear p13
                 try clear q13
                 try clear hx13
                 try clear c15
                 try clear c18
                 try clear c21
                 try clear c22
                 try clear c24
                 try clear c24b0
                 try clear c25
                 try clear c25b0
                 try clear c26
                 try clear c26b0
                 try clear c27
                 try clear c27b0
                 try clear c28
                 try clear c28b0
                 try clear c29
                 try clear c32
                 try clear c35
                 try clear c37
                 try clear c37b0
                 try clear c38
                 try clear c38b0
                 try clear c39
                 try clear c39b0
                 try clear c40
                 try clear c40b0
                 try clear c43
                 try clear c44
                 try clear c46
                 try clear c49
                 try clear c50
                 try clear c51
                 try clear c54
                 try clear c55
                 try clear c56
                 try clear c57
                 try clear c59
                 try clear c60
                 try clear c62
                 try clear c63
                 try clear c64
                 try clear p64
                 try clear c66
                 try clear c67
                 try clear c69
                 try clear c70
                 try clear c71
                 try clear c72
                 try clear hcz10_0 hcz10_1 hcz10_2 hcz10_3
                 try clear hcz11_0 hcz11_1 hcz11_2 hcz11_3
                 try clear hcz13_0 hcz13_1 hcz13_2 hcz13_3
                 try clear hcz14_0 hcz14_1 hcz14_2 hcz14_3
                 try clear hcz16_0 hcz16_1 hcz16_2 hcz16_3
                 try clear hcz17_0 hcz17_1 hcz17_2 hcz17_3
                 try clear hcz19_0 hcz19_1 hcz19_2 hcz19_3
                 try clear hcz20_0 hcz20_1 hcz20_2 hcz20_3
                 try clear hcz23_0 hcz23_1 hcz23_2 hcz23_3
                 try clear hcz30_0 hcz30_1 hcz30_2 hcz30_3
                 try clear hcz31_0 hcz31_1 hcz31_2 hcz31_3
                 try clear hcz33_0 hcz33_1 hcz33_2 hcz33_3
                 try clear hcz34_0 hcz34_1 hcz34_2 hcz34_3
                 try clear hcz36_0 hcz36_1 hcz36_2 hcz36_3
                 try clear hcz45_0 hcz45_1
                 try clear hcz47_0 hcz47_1 hcz47_2 hcz47_3
                 try clear hcz52_0 hcz52_1
                 try clear hcz58_0 hcz58_1
                 try clear hcz61_0 hcz61_1
                 try clear hcz65_0 hcz65_1
                 try clear hcz68_0 hcz68_1
                 try clear hcz73_0 hcz73_1
                 try clear hfz10_0 hfz10_1 hfz10_2 hfz10_3
                 try clear hfz11_0 hfz11_1 hfz11_2 hfz11_3
                 try clear hfz13_0 hfz13_1 hfz13_2 hfz13_3
                 try clear hfz14_0 hfz14_1 hfz14_2 hfz14_3
                 try clear hfz16_0 hfz16_1 hfz16_2 hfz16_3
                 try clear hfz17_0 hfz17_1 hfz17_2 hfz17_3
                 try clear hfz19_0 hfz19_1 hfz19_2 hfz19_3
                 try clear hfz20_0 hfz20_1 hfz20_2 hfz20_3
                 try clear hfz23_0 hfz23_1 hfz23_2 hfz23_3
                 try clear hfz30_0 hfz30_1 hfz30_2 hfz30_3
                 try clear hfz31_0 hfz31_1 hfz31_2 hfz31_3
                 try clear hfz33_0 hfz33_1 hfz33_2 hfz33_3
                 try clear hfz34_0 hfz34_1 hfz34_2 hfz34_3
                 try clear hfz36_0 hfz36_1 hfz36_2 hfz36_3
                 try clear hfz45_0 hfz45_1
                 try clear hfz47_0 hfz47_1 hfz47_2 hfz47_3
                 try clear hfz52_0 hfz52_1
                 try clear hfz58_0 hfz58_1
                 try clear hfz61_0 hfz61_1
                 try clear hfz65_0 hfz65_1
                 try clear hfz68_0 hfz68_1
                 try clear hfz73_0 hfz73_1
                 try clear hx127_0
                 try clear hx127_1
                 try clear hx127_2
                 try clear hx127_3
                 try clear hx127_4
                 try clear hx127_5
                 try clear hx127_6
                 try clear hx127_7
                 try clear hx127_8
                 try clear hx128_0
                 try clear hx128_1
                 try clear hx128_2
                 try clear hx128_3
                 try clear hx128_4
                 try clear hx128_5
                 try clear hx128_6
                 try clear hx128_7
                 try clear hx128_8
                 try clear hx129_0
                 try clear hx129_1
                 try clear hx131_0
                 try clear hx131_1
                 try clear p1
                 try clear p12
                 try clear p127
                 try clear p128
                 try clear p129
                 try clear p13
                 try clear p131
                 try clear p2
                 try clear p6
                 try clear p64
                 try clear q1
                 try clear q12
                 try clear q127
                 try clear q128
                 try clear q129
                 try clear q13
                 try clear q131
                 obtain ⟨x89_5, rfl, HA, HK5, BK125, BK126, BK130, BK132, HB⟩ := hrel
                 cases gk with
                 | zero => exact absurd HA.out (by simp [foghornref13_Same.l2])
                 | succ k5 =>
                  have H := HA.out
                  clear HA
                  simp only [foghornref13_Same.l2] at H
                  by_cases c74 : x89_5 < (((rd_T47 l0_1 x61_3).f0).length : Int)
                  ·rw [if_pos c74] at H
                   have c74b0 : decide (x89_5 < (((rd_T47 l0_1 x61_3).f0).length : Int)) = true := decide_eq_true c74
                   clear c74
                   by_cases c75 : 0 ≤ x89_5
                   ·rw [if_pos c75] at H
                    have c75b0 : decide (0 ≤ x89_5) = true := decide_eq_true c75
                    clear c75
                    by_cases c76 : x89_5 < (((rd_T47 l0_1 x61_3).f0).length : Int)
                    ·rw [if_pos c76] at H
                     have c76b0 : decide (x89_5 < (((rd_T47 l0_1 x61_3).f0).length : Int)) = true := decide_eq_true c76
                     clear c76
                     by_cases c77 : x89_5 < (((rd_T47 l1_1 x61_3).f0).length : Int)
                     ·rw [if_pos c77] at H
                      have c77b0 : decide (x89_5 < (((rd_T47 l1_1 x61_3).f0).length : Int)) = true := decide_eq_true c77
                      clear c77
                      by_cases c78 : (rd ((rd_T47 l0_1 x61_3).f0) x89_5) = (rd ((rd_T47 l1_1 x61_3).f0) x89_5)
                      ·rw [if_pos c78] at H
                       have c78b0 : ((rd ((rd_T47 l0_1 x61_3).f0) x89_5) == (rd ((rd_T47 l1_1 x61_3).f0) x89_5)) = true := beq_iff_eq.mpr c78
                       have c78b1 : ((rd ((rd_T47 l0_1 x61_3).f0) x89_5) != (rd ((rd_T47 l1_1 x61_3).f0) x89_5)) = false := bne_eq_false_iff_eq.mpr c78
                       clear c78
                       have H' := aA H
                       clear H
                       have hnb79 := NB130_125.out
                       have hnc79 := NB125_130.out
                       have hnb80 := NB130_126.out
                       have hnc80 := NB126_130.out
                       have hnb81 := NB130_132.out
                       have hnc81 := NB132_130.out
                       obtain ⟨hcz82_0, hcz82_1⟩ := bC2 BK130.out
                       obtain ⟨hfz82_0, hfz82_1⟩ := bF2 BK130.out
                       have p134 : 0 ≤ (x89_5 : Int) := of_decide_eq_true (by first | (with_reducible assumption) | assumption)
                       have q134 : x89_5 < (((rd_T47 l0_1 x61_3).f0).length : Int) := of_decide_eq_true (by first | (with_reducible assumption) | assumption)
                       obtain ⟨ad134, e134, hx134_0⟩ := Kd.at_int HR129_0.out x89_5 p134 q134
                       cases e134
                       replace hx134_0 := (HB.out.cell (World.block_lt_of_cell? w _ hx134_0)).trans hx134_0
                       replace p134 := eq_true p134
                       replace q134 := eq_true q134
                       have hnb83 := NB132_125.out
                       have hnc83 := NB125_132.out
                       have hnb84 := NB132_126.out
                       have hnc84 := NB126_132.out
                       obtain ⟨hcz85_0, hcz85_1⟩ := bC2 BK132.out
                       obtain ⟨hfz85_0, hfz85_1⟩ := bF2 BK132.out
                       have p135 : 0 ≤ (x89_5 : Int) := of_decide_eq_true (by first | (with_reducible assumption) | assumption)
                       have q135 : x89_5 < (((rd_T47 l1_1 x61_3).f0).length : Int) := of_decide_eq_true (by first | (with_reducible assumption) | assumption)
                       obtain ⟨ad135, e135, hx135_0⟩ := Kd.at_int HR131_0.out x89_5 p135 q135
                       cases e135
                       replace hx135_0 := (HB.out.cell (World.block_lt_of_cell? w _ hx135_0)).trans hx135_0
                       replace p135 := eq_true p135
                       replace q135 := eq_true q135
                       go_wp2
                       repeat (go_quiet (fail); try go_wp2)
                       go_roundg k5
                       case measure => have := HJ2.out; have := HK2.out; have := HK3.out; have := HJ40.out; have := HK5.out; omega
                       case rel => exact ⟨(wrap64 (x89_5 + 1)), (by first | rfl | (simp; done) | (simp [*]; done)), H', ⟨by have := HJ2.out; have := HK2.out; have := HK3.out; have := HJ40.out; have := HK5.out; omega⟩, ⟨by (with_reducible repeat (first | refine blk_drewN ?_ _ | refine blk_drew ?_ | refine blk_alloc ?_ _)); exact BK125.out⟩, ⟨by (with_reducible repeat (first | refine blk_drewN ?_ _ | refine blk_drew ?_ | refine blk_alloc ?_ _)); exact BK126.out⟩, ⟨by (with_reducible repeat (first | refine blk_drewN ?_ _ | refine blk_drew ?_ | refine blk_alloc ?_ _)); exact BK130.out⟩, ⟨by (with_reducible repeat (first | refine blk_drewN ?_ _ | refine blk_drew ?_ | refine blk_alloc ?_ _)); exact BK132.out⟩, ⟨by repeat (first | (with_reducible first | exact HB.out | apply below_alloc | apply pw_below_drewN | apply below_drew1 | refine below_set ?_ GE125.out | refine below_set ?_ GE126.out | refine below_set ?_ GE130.out | refine below_set ?_ GE132.out) | exact HB.out)⟩⟩
                      ·rw [if_neg c78] at H
                       have c78b0 : ((rd ((rd_T47 l0_1 x61_3).f0) x89_5) == (rd ((rd_T47 l1_1 x61_3).f0) x89_5)) = false := beq_eq_false_iff_ne.mpr c78
                       have c78b1 : ((rd ((rd_T47 l0_1 x61_3).f0) x89_5) != (rd ((rd_T47 l1_1 x61_3).f0) x89_5)) = true := bne_iff_ne.mpr c78
                       obtain rfl := Option.some.inj H
                       have hnb86 := NB130_125.out
                       have hnc86 := NB125_130.out
                       have hnb87 := NB130_126.out
                       have hnc87 := NB126_130.out
                       have hnb88 := NB130_132.out
                       have hnc88 := NB132_130.out
                       obtain ⟨hcz89_0, hcz89_1⟩ := bC2 BK130.out
                       obtain ⟨hfz89_0, hfz89_1⟩ := bF2 BK130.out
                       have p134 : 0 ≤ (x89_5 : Int) := of_decide_eq_true (by first | (with_reducible assumption) | assumption)
                       have q134 : x89_5 < (((rd_T47 l0_1 x61_3).f0).length : Int) := of_decide_eq_true (by first | (with_reducible assumption) | assumption)
                       obtain ⟨ad134, e134, hx134_0⟩ := Kd.at_int HR129_0.out x89_5 p134 q134
                       cases e134
                       replace hx134_0 := (HB.out.cell (World.block_lt_of_cell? w _ hx134_0)).trans hx134_0
                       replace p134 := eq_true p134
                       replace q134 := eq_true q134
                       have hnb90 := NB132_125.out
                       have hnc90 := NB125_132.out
                       have hnb91 := NB132_126.out
                       have hnc91 := NB126_132.out
                       obtain ⟨hcz92_0, hcz92_1⟩ := bC2 BK132.out
                       obtain ⟨hfz92_0, hfz92_1⟩ := bF2 BK132.out
                       have p135 : 0 ≤ (x89_5 : Int) := of_decide_eq_true (by first | (with_reducible assumption) | assumption)
                       have q135 : x89_5 < (((rd_T47 l1_1 x61_3).f0).length : Int) := of_decide_eq_true (by first | (with_reducible assumption) | assumption)
                       obtain ⟨ad135, e135, hx135_0⟩ := Kd.at_int HR131_0.out x89_5 p135 q135
                       cases e135
                       replace hx135_0 := (HB.out.cell (World.block_lt_of_cell? w _ hx135_0)).trans hx135_0
                       replace p135 := eq_true p135
                       replace q135 := eq_true q135
                       go_wp2
                       repeat (go_quiet (fail); try go_wp2)
                       go_ret
                       exact ⟨by first | rfl | (simp [errW_none, errW_some] <;> rfl) | (simp [*, errW_none, errW_some] <;> rfl), by repeat (first | (with_reducible first | exact HB.out | apply below_alloc | apply pw_below_drewN | apply below_drew1 | refine below_set ?_ GE125.out | refine below_set ?_ GE126.out | refine below_set ?_ GE130.out | refine below_set ?_ GE132.out) | exact HB.out)⟩
                     ·rw [if_neg c77] at H
                      exact absurd H (by simp)
                    ·rw [if_neg c76] at H
                     exact absurd H (by simp)
                   ·rw [if_neg c75] at H
                    exact absurd H (by simp)
                  ·rw [if_neg c74] at H
                   have c74b0 : decide (x89_5 < (((rd_T47 l0_1 x61_3).f0).length : Int)) = false := decide_eq_false c74
                   clear c74
                   have H' := aA H
                   clear H
                   go_wp2
                   repeat (go_quiet (fail); try go_wp2)
                   go_roundg k5
                   case measure => have := HJ2.out; have := HK2.out; have := HK3.out; have := HJ40.out; have := HK5.out; omega
                   case rel => exact ⟨(wrap64 (x61_3 + 1)), (by first | rfl | (simp; done) | (simp [*]; done)), H', ⟨by have := HJ2.out; have := HK2.out; have := HK3.out; have := HJ40.out; have := HK5.out; omega⟩, ⟨by (with_reducible repeat (first | refine blk_drewN ?_ _ | refine blk_drew ?_ | refine blk_alloc ?_ _)); exact BK125.out⟩, ⟨by (with_reducible repeat (first | refine blk_drewN ?_ _ | refine blk_drew ?_ | refine blk_alloc ?_ _)); exact BK126.out⟩, ⟨by repeat (first | (with_reducible first | exact HB.out | apply below_alloc | apply pw_below_drewN | apply below_drew1 | refine below_set ?_ GE125.out | refine below_set ?_ GE126.out | refine below_set ?_ GE130.out | refine below_set ?_ GE132.out) | exact HB.out)⟩⟩
            ·rw [if_neg c40] at H
             exact absurd H (by simp)
           ·rw [if_neg c39] at H
            exact absurd H (by simp)
          ·rw [if_neg c38] at H
           exact absurd H (by simp)
         ·rw [if_neg c37] at H
          have c37b0 : decide (x61_3 < (l0_1.length : Int)) = false := decide_eq_false c37
          clear c37
          obtain rfl := Option.some.inj H
          go_wp2
          repeat (go_quiet (fail); try go_wp2)
          go_ret
          exact ⟨by first | rfl | (simp [errW_none, errW_some] <;> rfl) | (simp [*, errW_none, errW_some] <;> rfl), by repeat (first | (with_reducible first | exact HB.out | apply below_alloc | apply pw_below_drewN | apply below_drew1 | refine below_set ?_ GE125.out | refine below_set ?_ GE126.out) | exact HB.out)⟩
end Go.Proofs.YtjfknmlchdifjaaDoorQ.P
