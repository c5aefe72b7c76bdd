/- Part 4 of a proof: contracts and plain laws of what the statement reaches. No condition. -/
import Derived.Test.YtjfknmlchdifjaaGreatDoorWwp1
import Derived.Test.YtjfknmlchdifjaaGreatDoorWwp2
import Derived.Test.YtjfknmlchdifjaaGreatDoorWwp3
set_option linter.unusedVariables false
set_option linter.unusedSimpArgs false
namespace Go.Proofs.YtjfknmlchdifjaaGreatDoorQ.P
open Go.RowKit Go.Proofs.YtjfknmlchdifjaaGreatDoorW.PrintWords Go.Proofs.YtjfknmlchdifjaaGreatDoorW.PrintLast Go.Proofs.YtjfknmlchdifjaaGreatDoorW.PrintMore
attribute [local go_sem] max2_int min2_int max_two min_two max_three min_three max_four min_four
mutual
def foghornref12_hush.j0 : Nat → List ByteArray → Int → Int → Bool → Option (Int × (List (S52)) × Int × Int × (List (S32)) × Int)
 | 0, _, _, _, _ => none
 | k + 1, x0, x4, x6, x36 => if x36 = true then (some (0, ([] : List (S52)), 0, 0, ([] : List (S32)), 13)) else (if 2 ≤ (x0.length : Int) then (foghornref12_hush.l0 k x4 x6 (x0.drop 2) ((x0.drop 2).length : Int) 0 x4 x6 ([] : List (S32))) else (none))
def foghornref12_hush.l0 : Nat → Int → Int → List ByteArray → Int → Int → Int → Int → List (S32) → Option (Int × (List (S52)) × Int × Int × (List (S32)) × Int)
 | 0, _, _, _, _, _, _, _, _ => none
 | k + 1, x4, x6, x42, x43, x44, x262000, x262001, x262002 => if x44 < x43 then (if 0 ≤ x44 then (if x44 < (x42.length : Int) then ((foghornref12_Asked.f k (rdOf ByteArray.empty x42 x44)).bind fun bt264 => (if bt264.2.2.2 = true then (if x262002.length < 3518437208883 then (foghornref12_hush.l0 k x4 x6 x42 x43 (wrap64 (x44 + 1)) x262000 x262001 (x262002 ++ [(⟨bt264.1, bt264.2.1, bt264.2.2.1⟩ : S32)])) else (none)) else (some (0, ([] : List (S52)), 0, 0, ([] : List (S32)), 13)))) else (none)) else (none)) else (if (x262002.length : Int) > 4 then (some (0, ([] : List (S52)), 0, 0, ([] : List (S32)), 2)) else (if x4 ≥ x6 then (some (0, ([] : List (S52)), 0, 0, ([] : List (S32)), 3)) else (some (2, ([] : List (S52)), x262000, x262001, x262002, 0))))
end
def foghornref12_hush.f (k : Nat) (l0 : List ByteArray) : Option (Int × (List (S52)) × Int × Int × (List (S32)) × Int) := if (l0.length : Int) < 3 then (some (0, ([] : List (S52)), 0, 0, ([] : List (S32)), 12)) else (if 0 < (l0.length : Int) then ((foghornref12_Number.f k (rdOf ByteArray.empty l0 0)).bind fun bt256 => (if 1 < (l0.length : Int) then ((foghornref12_Number.f k (rdOf ByteArray.empty l0 1)).bind fun bt259 => (if bt256.2 = true then (foghornref12_hush.j0 k l0 bt256.1 bt259.1 (!bt259.2)) else (foghornref12_hush.j0 k l0 bt256.1 bt259.1 true))) else (none))) else (none))
theorem foghornref12_hush.mono_l : ∀ k, (∀ y0 y1 y2 y3, LeO (foghornref12_hush.j0 k y0 y1 y2 y3) (foghornref12_hush.j0 (k + 1) y0 y1 y2 y3)) ∧ (∀ y0 y1 y2 y3 y4 y5 y6 y7, LeO (foghornref12_hush.l0 k y0 y1 y2 y3 y4 y5 y6 y7) (foghornref12_hush.l0 (k + 1) y0 y1 y2 y3 y4 y5 y6 y7))
 | 0 => ⟨fun _ _ _ _ r h => by simp [foghornref12_hush.j0] at h, fun _ _ _ _ _ _ _ _ r h => by simp [foghornref12_hush.l0] at h⟩
 | k + 1 => by
  obtain ⟨ih0, ih1⟩ := foghornref12_hush.mono_l k
  refine ⟨?_, ?_⟩
  ·intro y0 y1 y2 y3
   unfold foghornref12_hush.j0
   repeat' first
   | (with_reducible exact ih0 _ _ _ _)
   | (with_reducible exact ih1 _ _ _ _ _ _ _ _)
   | (with_reducible exact foghornref12_Asked.mono _ _)
   | (with_reducible exact foghornref12_Number.mono _ _)
   | (with_reducible exact LeO.refl _)
   | (with_reducible exact LeO.none _)
   | (with_reducible refine LeO.ite ?_ ?_)
   | (with_reducible refine LeO.bind ?_ (fun _ => ?_))
   | exact ih0 _ _ _ _
   | exact ih1 _ _ _ _ _ _ _ _
   | exact foghornref12_Asked.mono _ _
   | exact foghornref12_Number.mono _ _
   | exact LeO.none _
   | refine LeO.ite ?_ ?_
   | refine LeO.bind ?_ (fun _ => ?_)
  ·intro y0 y1 y2 y3 y4 y5 y6 y7
   unfold foghornref12_hush.l0
   repeat' first
   | (with_reducible exact ih0 _ _ _ _)
   | (with_reducible exact ih1 _ _ _ _ _ _ _ _)
   | (with_reducible exact foghornref12_Asked.mono _ _)
   | (with_reducible exact foghornref12_Number.mono _ _)
   | (with_reducible exact LeO.refl _)
   | (with_reducible exact LeO.none _)
   | (with_reducible refine LeO.ite ?_ ?_)
   | (with_reducible refine LeO.bind ?_ (fun _ => ?_))
   | exact ih0 _ _ _ _
   | exact ih1 _ _ _ _ _ _ _ _
   | exact foghornref12_Asked.mono _ _
   | exact foghornref12_Number.mono _ _
   | exact LeO.none _
   | refine LeO.ite ?_ ?_
   | refine LeO.bind ?_ (fun _ => ?_)
theorem foghornref12_hush.mono : ∀ a0 k, LeO (foghornref12_hush.f k a0) (foghornref12_hush.f (k + 1) a0) := by
 intro a0 k
 obtain ⟨ih0, ih1⟩ := foghornref12_hush.mono_l k
 unfold foghornref12_hush.f
 repeat' first
   | (with_reducible exact ih0 _ _ _ _)
   | (with_reducible exact ih1 _ _ _ _ _ _ _ _)
   | (with_reducible exact foghornref12_Asked.mono _ _)
   | (with_reducible exact foghornref12_Number.mono _ _)
   | (with_reducible exact LeO.refl _)
   | (with_reducible exact LeO.none _)
   | (with_reducible refine LeO.ite ?_ ?_)
   | (with_reducible refine LeO.bind ?_ (fun _ => ?_))
   | exact ih0 _ _ _ _
   | exact ih1 _ _ _ _ _ _ _ _
   | exact foghornref12_Asked.mono _ _
   | exact foghornref12_Number.mono _ _
   | exact LeO.none _
   | refine LeO.ite ?_ ?_
   | refine LeO.bind ?_ (fun _ => ?_)
set_option maxHeartbeats 8000000 in
set_option maxRecDepth 100000 in
theorem foghornref12_hush.calls (k : Nat) (A0 : Option Addr) (c0 : Nat) (l0 : List ByteArray) (r1 : Int) (r2 : List (S52)) (r3 : Int) (r4 : Int) (r5 : List (S32)) (r6 : Int) (w : World) (hr0 : Kd.C Kd.string w A0 l0.length l0) (hc0 : l0.length ≤ c0) (h : foghornref12_hush.f k l0 = some (r1, r2, r3, r4, r5, r6)) :
  Calls Tryz.prog 39 #[.slice A0 l0.length c0] w fun e w' => ∃ v1_ v4_ : Value, e = .returned (.tuple #[.agg #[.int .i64 r1, v1_, .int .i64 r3, .int .i64 r4, v4_], .int .i64 r6]) ∧ Kd.R k52 52 w' w.heap.size (fun _ => True) v1_ r2 ∧ Kd.R k32 32 w' w.heap.size (fun _ => True) v4_ r5 ∧ Below w.heap.size w w' := by
 have hu27 := Tryz.underlying27
 have hu25 := Tryz.underlying25
 have hu32 := Tryz.underlying32
 have HR0 := aA hr0
 have HC0 := aA hc0
 clear hr0 hc0
 have HB := aA (Below.refl w.heap.size w)
 have H : (if (l0.length : Int) < 3 then (some (0, ([] : List (S52)), 0, 0, ([] : List (S32)), 12)) else (if 0 < (l0.length : Int) then ((foghornref12_Number.f k (rdOf ByteArray.empty l0 0)).bind fun bt256 => (if 1 < (l0.length : Int) then ((foghornref12_Number.f k (rdOf ByteArray.empty l0 1)).bind fun bt259 => (if bt256.2 = true then (foghornref12_hush.j0 k l0 bt256.1 bt259.1 (!bt259.2)) else (foghornref12_hush.j0 k l0 bt256.1 bt259.1 true))) else (none))) else (none))) = some (r1, r2, r3, r4, r5, r6) := h
 clear h
 by_cases c2 : (l0.length : Int) < 3
 ·rw [if_pos c2] at H
  have c2b0 : decide ((l0.length : Int) < 3) = true := decide_eq_true c2
  have c2b1 : decide (l0.length < 3) = true := decide_eq_true (by omega)
  clear c2
  simp only [Option.some.injEq, Prod.mk.injEq] at H
  obtain ⟨rfl, rfl, rfl, rfl, rfl, rfl⟩ := H
  go_enter Tryz.func39, Tryz.ntmps39
  go_wp2_with (first | ((with_reducible refine gate_dst (N := 2) rfl ?_); refine box_event ?hg (N := 2) ?hd (cs := #[.int .i64 0, .slice none 0 0, .int .i64 0, .int .i64 0, .slice none 0 0]) (t := 27) ?hr ?_; (case hd => rfl); (case hg => rfl); (case hr => first | (go_simp; done) | (go_simp; rfl)); intro gb254 hg w3 hbox hb; have n0_ := aA (below_step mB hb); have n1_ := aA (hbox); have n2_ := aA ((bZ hg mB)); have n3_ := aA ((bZ hg mB)); clear HB; have HB := n0_; have BK254 := n1_; have GW254 := n2_; have GE254 := n3_; clear n0_ n1_ n2_ n3_ hb hbox hg; obtain ⟨hcz4_0, hcz4_1, hcz4_2, hcz4_3, hcz4_4⟩ := bC5 BK254.out; obtain ⟨hfz4_0, hfz4_1, hfz4_2, hfz4_3, hfz4_4⟩ := bF5 BK254.out))
  refine bodyPost_ret (results_ct rfl _ _ gb254 27 #[.int .i64 0, .slice none 0 0, .int .i64 0, .int .i64 0, .slice none 0 0] (0, 0) _ rfl (by (with_reducible repeat (first | refine blk_drewN ?_ _ | refine blk_drew ?_ | refine blk_alloc ?_ _)); have h_ := BK254.out; exact pK 4 (pK 3 (pK 2 (pK 1 (pK 0 (h_)))))) Tryz.underlying27 rfl (by kernel_rfl)) rfl ?_
  exact ⟨_, _, by first | rfl | (simp [errW_none, errW_some] <;> rfl) | (simp [*, errW_none, errW_some] <;> rfl), by first | exact Kd.R_nil _ _ _ _ _ | exact Kd.N_nil _ _ _ _ _ | exact Kd.V_nil _ _ _ _ _ | exact Kd.Q_nil _ _ _ _ _ | exact Kd.S_nil _ _ _ _ _, by first | exact Kd.R_nil _ _ _ _ _ | exact Kd.N_nil _ _ _ _ _ | exact Kd.V_nil _ _ _ _ _ | exact Kd.Q_nil _ _ _ _ _ | exact Kd.S_nil _ _ _ _ _, by repeat (first | (with_reducible first | exact HB.out | apply below_alloc | apply pw_below_drewN | apply below_drew1 | refine below_set ?_ GE254.out) | exact HB.out)⟩
 ·rw [if_neg c2] at H
  have c2b0 : decide ((l0.length : Int) < 3) = false := decide_eq_false c2
  have c2b1 : decide (l0.length < 3) = false := decide_eq_false (by omega)
  clear c2
  by_cases c5 : 0 < (l0.length : Int)
  ·rw [if_pos c5] at H
   have c5b0 : decide (0 < (l0.length : Int)) = true := decide_eq_true c5
   have c5b1 : decide (0 < l0.length) = true := decide_eq_true (by omega)
   clear c5
   replace H := Option.bind_eq_some_iff.mp H
   obtain ⟨⟨t256, t257⟩, A60, H⟩ := H
   replace H : (if 1 < (l0.length : Int) then ((foghornref12_Number.f k (rdOf ByteArray.empty l0 1)).bind fun bt259 => (if t257 = true then (foghornref12_hush.j0 k l0 t256 bt259.1 (!bt259.2)) else (foghornref12_hush.j0 k l0 t256 bt259.1 true))) else (none)) = some (r1, r2, r3, r4, r5, r6) := H
   have A6 := aA A60
   clear A60
   by_cases c7 : 1 < (l0.length : Int)
   ·rw [if_pos c7] at H
    have c7b0 : decide (1 < (l0.length : Int)) = true := decide_eq_true c7
    have c7b1 : decide (1 < l0.length) = true := decide_eq_true (by omega)
    clear c7
    replace H := Option.bind_eq_some_iff.mp H
    obtain ⟨⟨t259, t260⟩, A80, H⟩ := H
    replace H : (if t257 = true then (foghornref12_hush.j0 k l0 t256 t259 (!t260)) else (foghornref12_hush.j0 k l0 t256 t259 true)) = some (r1, r2, r3, r4, r5, r6) := H
    have A8 := aA A80
    clear A80
    have HC9 := aA H
    clear H
    go_enter Tryz.func39, Tryz.ntmps39
    go_upto_region 5 with (first | ((with_reducible refine gate_dst (N := 2) rfl ?_); refine box_event ?hg (N := 2) ?hd (cs := #[.int .i64 0, .slice none 0 0, .int .i64 0, .int .i64 0, .slice none 0 0]) (t := 27) ?hr ?_; (case hd => rfl); (case hg => rfl); (case hr => first | (go_simp; done) | (go_simp; rfl)); intro gb254 hg w10 hbox hb; have n0_ := aA (below_step mB hb); have n1_ := aA (hbox); have n2_ := aA ((bZ hg mB)); have n3_ := aA ((bZ hg mB)); clear HB; have HB := n0_; have BK254 := n1_; have GW254 := n2_; have GE254 := n3_; clear n0_ n1_ n2_ n3_ hb hbox hg; have p255 : 0 ≤ (0 : Int) := (by omega); have q255 : 0 < (l0.length : Int) := of_decide_eq_true (by first | (with_reducible assumption) | assumption); obtain ⟨ad255, e255, hx255_0⟩ := Kd.at_string HR0.out 0 p255 q255; cases e255; have qi255 : (0 < l0.length) = True := eq_true (by omega); (try rw [show ((0 : Int)).toNat = 0 from rfl] at hx255_0); (try rw [Addr.add_zero'] at hx255_0); replace hx255_0 := (HB.out.cell (World.block_lt_of_cell? w _ hx255_0)).trans hx255_0; replace p255 := eq_true p255; replace q255 := eq_true q255) | ((with_reducible refine gate_callee (f := 79) rfl ?_); refine goesL_ (some 21) rfl rfl Tryz.func79 (by kernel_rfl) rfl #[.string (rdOf ByteArray.empty l0 0)] rfl mS ?_; (with_reducible refine (foghornref12_Number.calls k (rdOf ByteArray.empty l0 0) t256 t257 _ A6.out).mono ?_); rintro e w11 ⟨rfl, hb⟩; refine ⟨_, rfl, ?_⟩; have n0_ := aA (bB BK254.out hb); have n1_ := aA (below_step (mD1 GE254.out) hb); clear BK254 HB; have BK254 := n0_; have HB := n1_; clear n0_ n1_; (try clear hb); (try clear hb2); (try clear hk); (try clear hi); have p258 : 0 ≤ (1 : Int) := (by omega); have q258 : 1 < (l0.length : Int) := of_decide_eq_true (by first | (with_reducible assumption) | assumption); obtain ⟨ad258, e258, hx258_0⟩ := Kd.at_string HR0.out 1 p258 q258; obtain rfl : ad255 = ad258 := (by injection e258); (try simp only [show (1 : Int).toNat = 1 from rfl, Nat.reduceMul, Nat.reduceEqDiff, Go.Addr.add, ↓reduceIte] at hx258_0); have qi258 : (1 < l0.length) = True := eq_true (by omega); (try rw [show ((1 : Int)).toNat = 1 from rfl] at hx258_0); replace hx258_0 := (HB.out.cell (World.block_lt_of_cell? w _ hx258_0)).trans hx258_0; replace p258 := eq_true p258; replace q258 := eq_true q258) | ((with_reducible refine gate_callee (f := 79) rfl ?_); refine goesL_ (some 28) rfl rfl Tryz.func79 (by kernel_rfl) rfl #[.string (rdOf ByteArray.empty l0 1)] rfl mS ?_; (with_reducible refine (foghornref12_Number.calls k (rdOf ByteArray.empty l0 1) t259 t260 _ A8.out).mono ?_); rintro e w12 ⟨rfl, hb⟩; refine ⟨_, rfl, ?_⟩; have n0_ := aA (bB BK254.out hb); have n1_ := aA (below_step (mD1 GE254.out) hb); clear BK254 HB; have BK254 := n0_; have HB := n1_; clear n0_ n1_; (try clear hb); (try clear hb2); (try clear hk); (try clear hi)))
    (try simp only [Act.put, List.setIfInBounds_toArray, List.set_cons_zero, List.set_cons_succ])
    go_cut [36] (fun v36 wc => ∃ (kq : Nat) (x36_8 : Bool), v36 = .bool x36_8 ∧ Aside0 (foghornref12_hush.j0 kq l0 t256 t259 x36_8 = some (r1, r2, r3, r4, r5, r6)) ∧ Aside0 (kq ≤ k) ∧ Aside0 (wc.heap[gb254]? = some (.cells #[.int .i64 0, (.slice none 0 0), .int .i64 0, .int .i64 0, (.slice none 0 0)] 27 (0, 0))) ∧ Aside0 (Below w.heap.size w wc))
    case first =>
     have H := HC9.out
     clear HC9
     by_cases c13 : t257 = true
     ·subst c13
      have H1 : (foghornref12_hush.j0 k l0 t256 t259 (!t260)) = some (r1, r2, r3, r4, r5, r6) := by rw [if_pos rfl] at H; exact H
      clear H
      have H := H1
      clear H1
      have H' := aA H
      clear H
      go_wp2
      go_meet
      case rel => exact ⟨_, (!t260), (by first | rfl | (simp; done) | (simp [*]; done)), H', ⟨by first | omega | exact Nat.le_refl _⟩, ⟨by (with_reducible repeat (first | refine blk_drewN ?_ _ | refine blk_drew ?_ | refine blk_alloc ?_ _)); exact BK254.out⟩, ⟨by repeat (first | (with_reducible first | exact HB.out | apply below_alloc | apply pw_below_drewN | apply below_drew1 | refine below_set ?_ GE254.out) | exact HB.out)⟩⟩
     ·replace c13 := Bool.eq_false_iff.mpr c13
      subst c13
      have H1 : (foghornref12_hush.j0 k l0 t256 t259 true) = some (r1, r2, r3, r4, r5, r6) := by rw [if_neg (show ¬ (false = true) by decide)] at H; exact H
      clear H
      have H := H1
      clear H1
      have H' := aA H
      clear H
      go_wp2
      go_meet
      case rel => exact ⟨_, (true), (by first | rfl | (simp; done) | (simp [*]; done)), H', ⟨by first | omega | exact Nat.le_refl _⟩, ⟨by (with_reducible repeat (first | refine blk_drewN ?_ _ | refine blk_drew ?_ | refine blk_alloc ?_ _)); exact BK254.out⟩, ⟨by repeat (first | (with_reducible first | exact HB.out | apply below_alloc | apply pw_below_drewN | apply below_drew1 | refine below_set ?_ GE254.out) | exact HB.out)⟩⟩
    case rest =>
     clear HC9
     try clear c1
     try clear c2
     try clear c2b0
     try clear c2b1
     try clear p2
     try clear q2
     try clear hx2
     try clear qi2
     try clear c3
     try clear c5
     try clear c5b0
     try clear c5b1
     try clear c7
     try clear c7b0
     try clear c7b1
     try clear c13
     try clear hcz4_0 hcz4_1 hcz4_2 hcz4_3 hcz4_4
     try clear hfz4_0 hfz4_1 hfz4_2 hfz4_3 hfz4_4
     try clear hx255_0
     try clear hx258_0
     try clear p255
     try clear p258
     try clear q255
     try clear q258
     obtain ⟨kq, x36_8, rfl, HA, HJ8, BK254, HB⟩ := hcut
     cases kq with
     | zero => exact absurd HA.out (by simp [foghornref12_hush.j0])
     | succ kj8 =>
      have H := HA.out
      clear HA
      simp only [foghornref12_hush.j0] at H
      by_cases c14 : x36_8 = true
      ·subst c14
       have H1 : (some (0, ([] : List (S52)), 0, 0, ([] : List (S32)), 13)) = some (r1, r2, r3, r4, r5, r6) := by rw [if_pos rfl] at H; exact H
       clear H
       have H := H1
       clear H1
       simp only [Option.some.injEq, Prod.mk.injEq] at H
       obtain ⟨rfl, rfl, rfl, rfl, rfl, rfl⟩ := H
       obtain ⟨hcz15_0, hcz15_1, hcz15_2, hcz15_3, hcz15_4⟩ := bC5 BK254.out
       obtain ⟨hfz15_0, hfz15_1, hfz15_2, hfz15_3, hfz15_4⟩ := bF5 BK254.out
       go_wp2
       refine bodyPost_ret (results_ct rfl _ _ gb254 27 #[.int .i64 0, .slice none 0 0, .int .i64 0, .int .i64 0, .slice none 0 0] (0, 0) _ rfl (by (with_reducible repeat (first | refine blk_drewN ?_ _ | refine blk_drew ?_ | refine blk_alloc ?_ _)); have h_ := BK254.out; exact pK 4 (pK 3 (pK 2 (pK 1 (pK 0 (h_)))))) Tryz.underlying27 rfl (by kernel_rfl)) rfl ?_
       exact ⟨_, _, by first | rfl | (simp [errW_none, errW_some] <;> rfl) | (simp [*, errW_none, errW_some] <;> rfl), by first | exact Kd.R_nil _ _ _ _ _ | exact Kd.N_nil _ _ _ _ _ | exact Kd.V_nil _ _ _ _ _ | exact Kd.Q_nil _ _ _ _ _ | exact Kd.S_nil _ _ _ _ _, by first | exact Kd.R_nil _ _ _ _ _ | exact Kd.N_nil _ _ _ _ _ | exact Kd.V_nil _ _ _ _ _ | exact Kd.Q_nil _ _ _ _ _ | exact Kd.S_nil _ _ _ _ _, by repeat (first | (with_reducible first | exact HB.out | apply below_alloc | apply pw_below_drewN | apply below_drew1 | refine below_set ?_ GE254.out) | exact HB.out)⟩
      ·replace c14 := Bool.eq_false_iff.mpr c14
       subst c14
       have H1 : (if 2 ≤ (l0.length : Int) then (foghornref12_hush.l0 kj8 t256 t259 (l0.drop 2) ((l0.drop 2).length : Int) 0 t256 t259 ([] : List (S32))) else (none)) = some (r1, r2, r3, r4, r5, r6) := by rw [if_neg (show ¬ (false = true) by decide)] at H; exact H
       clear H
       have H := H1
       clear H1
       by_cases c16 : 2 ≤ (l0.length : Int)
       ·rw [if_pos c16] at H
        have c16b0 := eq_true c16
        have c16b1 := decide_eq_true c16
        clear c16
        have H' := aA H
        clear H
        go_wp2_with (first | ((with_reducible refine gate_dst (N := 8) rfl ?_); refine box_event ?hg (N := 8) ?hd (cs := #[.int .i64 0, .int .i64 0, .slice none 0 0]) (t := 25) ?hr ?_; (case hd => rfl); (case hg => rfl); (case hr => first | (go_simp; done) | (go_simp; rfl)); intro gb261 hg w17 hbox hb; have n0_ := aA (bB BK254.out hb); have n1_ := aA (below_step (mD1 GE254.out) hb); have n2_ := aA (hbox); have n3_ := aA ((bZ hg (mD1 GE254.out))); have n4_ := aA ((bZ hg (mD1 GE254.out))); have n5_ := aA ((bL hg BK254.out)); have n6_ := aA ((bG hg BK254.out)); clear BK254 HB; have BK254 := n0_; have HB := n1_; have BK261 := n2_; have GW261 := n3_; have GE261 := n4_; have NB254_261 := n5_; have NB261_254 := n6_; clear n0_ n1_ n2_ n3_ n4_ n5_ n6_ hb hbox hg; have hnb18 := NB261_254.out; have hnc18 := NB254_261.out; obtain ⟨hcz19_0, hcz19_1, hcz19_2⟩ := bC3 BK261.out; obtain ⟨hfz19_0, hfz19_1, hfz19_2⟩ := bF3 BK261.out; obtain ⟨i020, hi020, _, hsz20, _⟩ := info_parts info9; obtain ⟨A20, hcut20, hA20, hC20⟩ := print_drop_of (P := Tryz.prog) Value.string (⟨#[]⟩ : ByteArray) 67 9 .i64 Tryz.underlying67 hi020 hsz20 (some ad255) c0 l0 2 (by omega) (of_decide_eq_true (by first | (with_reducible assumption) | assumption)) HC0.out; have HR262 := aA (Kd.C_of_reads (h1 := fun _ => rfl) (hA20 _ (Kd.reads_of_C HR0.out))); have HC262 := aA hC20; clear hA20 hC20 hi020 hsz20))
        go_loopg [44] kj8 (fun kq v44 w' => ∃ (x44_2 : Int) (x255000_2 : Int) (x255002_2 : Int) (x255003_2 : Int) (x262002_2 : List (S32)) (u262002 : Value), v44 = .int .i64 x44_2 ∧ Aside0 (foghornref12_hush.l0 kq t256 t259 (l0.drop 2) ((l0.drop 2).length : Int) x44_2 t256 t259 x262002_2 = some (r1, r2, r3, r4, r5, r6)) ∧ Aside0 (kq ≤ kj8) ∧ Aside0 (Kd.R k32 32 w' w.heap.size (fun _ => True) u262002 x262002_2) ∧ Aside0 (w'.heap[gb254]? = some (.cells #[.int .i64 x255000_2, (.slice none 0 0), .int .i64 x255002_2, .int .i64 x255003_2, (.slice none 0 0)] 27 (0, 0))) ∧ Aside0 (w'.heap[gb261]? = some (.cells #[.int .i64 t256, .int .i64 t259, u262002] 25 (0, 0))) ∧ Aside0 (Below w.heap.size w w'))
        case atStart => exact ⟨(0), (0), (0), (0), (([] : List (S32))), (.slice none 0 0), (by first | rfl | (simp; done) | (simp [*]; done)), H', ⟨Nat.le_refl _⟩, ⟨by first | exact Kd.R_nil _ _ _ _ _ | exact Kd.N_nil _ _ _ _ _ | exact Kd.V_nil _ _ _ _ _ | exact Kd.Q_nil _ _ _ _ _ | exact Kd.S_nil _ _ _ _ _⟩, ⟨by (with_reducible repeat (first | refine blk_drewN ?_ _ | refine blk_drew ?_ | refine blk_alloc ?_ _)); refine blk_far ?_ NB254_261.out _; (with_reducible repeat (first | refine blk_drewN ?_ _ | refine blk_drew ?_ | refine blk_alloc ?_ _)); refine blk_far ?_ NB254_261.out _; (with_reducible repeat (first | refine blk_drewN ?_ _ | refine blk_drew ?_ | refine blk_alloc ?_ _)); refine blk_far ?_ NB254_261.out _; (with_reducible repeat (first | refine blk_drewN ?_ _ | refine blk_drew ?_ | refine blk_alloc ?_ _)); exact BK254.out⟩, ⟨by (with_reducible repeat (first | refine blk_drewN ?_ _ | refine blk_drew ?_ | refine blk_alloc ?_ _)); refine blk_put (cs := #[.int .i64 t256, .int .i64 t259, .slice none 0 0]) ?_ 2 _ rfl; (with_reducible repeat (first | refine blk_drewN ?_ _ | refine blk_drew ?_ | refine blk_alloc ?_ _)); refine blk_put (cs := #[.int .i64 t256, .int .i64 0, .slice none 0 0]) ?_ 1 _ rfl; (with_reducible repeat (first | refine blk_drewN ?_ _ | refine blk_drew ?_ | refine blk_alloc ?_ _)); refine blk_put (cs := #[.int .i64 0, .int .i64 0, .slice none 0 0]) ?_ 0 _ rfl; (with_reducible repeat (first | refine blk_drewN ?_ _ | refine blk_drew ?_ | refine blk_alloc ?_ _)); exact BK261.out⟩, ⟨by repeat (first | (with_reducible first | exact HB.out | apply below_alloc | apply pw_below_drewN | apply below_drew1 | refine below_set ?_ GE254.out | refine below_set ?_ GE261.out) | exact HB.out)⟩⟩
        case round =>
         clear H'
         try clear c1
         try clear c2
         try clear c2b0
         try clear c2b1
         try clear p2
         try clear q2
         try clear hx2
         try clear qi2
         try clear c3
         try clear c5
         try clear c5b0
         try clear c5b1
         try clear c7
         try clear c7b0
         try clear c7b1
         try clear c13
         try clear c14
         try clear c16
         try clear c16b0
         try clear c16b1
         try clear c18
         try clear hcz15_0 hcz15_1 hcz15_2 hcz15_3 hcz15_4
         try clear hcz19_0 hcz19_1 hcz19_2
         try clear hcz4_0 hcz4_1 hcz4_2 hcz4_3 hcz4_4
         try clear hfz15_0 hfz15_1 hfz15_2 hfz15_3 hfz15_4
         try clear hfz19_0 hfz19_1 hfz19_2
         try clear hfz4_0 hfz4_1 hfz4_2 hfz4_3 hfz4_4
         try clear hx255_0
         try clear hx258_0
         try clear p2
         try clear p255
         try clear p258
         try clear q2
         try clear q255
         try clear q258
         obtain ⟨x44_2, x255000_2, x255002_2, x255003_2, x262002_2, u262002, rfl, HA, HK2, HO_262002, BK254, BK261, HB⟩ := hrel
         cases gk with
         | zero => exact absurd HA.out (by simp [foghornref12_hush.l0])
         | succ k2 =>
          have H := HA.out
          clear HA
          simp only [foghornref12_hush.l0] at H
          by_cases c21 : x44_2 < ((l0.drop 2).length : Int)
          ·rw [if_pos c21] at H
           have c21b0 : decide (x44_2 < ((l0.drop 2).length : Int)) = true := decide_eq_true c21
           have c21b0d : decide (x44_2 < ((l0.length - 2 : Nat) : Int)) = true := by have h_ := c21b0; rw [List.length_drop] at h_; exact h_
           clear c21
           by_cases c22 : 0 ≤ x44_2
           ·rw [if_pos c22] at H
            have c22b0 : decide (0 ≤ x44_2) = true := decide_eq_true c22
            clear c22
            by_cases c23 : x44_2 < ((l0.drop 2).length : Int)
            ·rw [if_pos c23] at H
             have c23b0 : decide (x44_2 < ((l0.drop 2).length : Int)) = true := decide_eq_true c23
             have c23b0d : decide (x44_2 < ((l0.length - 2 : Nat) : Int)) = true := by have h_ := c23b0; rw [List.length_drop] at h_; exact h_
             clear c23
             replace H := Option.bind_eq_some_iff.mp H
             obtain ⟨⟨t264, t265, t266, t267⟩, A240, H⟩ := H
             replace H : (if t267 = true then (if x262002_2.length < 3518437208883 then (foghornref12_hush.l0 k2 t256 t259 (l0.drop 2) ((l0.drop 2).length : Int) (wrap64 (x44_2 + 1)) t256 t259 (x262002_2 ++ [(⟨t264, t265, t266⟩ : S32)])) else (none)) else (some (0, ([] : List (S52)), 0, 0, ([] : List (S32)), 13))) = some (r1, r2, r3, r4, r5, r6) := H
             have A24 := aA A240
             clear A240
             by_cases c25 : t267 = true
             ·subst c25
              have H1 : (if x262002_2.length < 3518437208883 then (foghornref12_hush.l0 k2 t256 t259 (l0.drop 2) ((l0.drop 2).length : Int) (wrap64 (x44_2 + 1)) t256 t259 (x262002_2 ++ [(⟨t264, t265, t266⟩ : S32)])) else (none)) = some (r1, r2, r3, r4, r5, r6) := by rw [if_pos rfl] at H; exact H
              clear H
              have H := H1
              clear H1
              by_cases c26 : x262002_2.length < 3518437208883
              ·rw [if_pos c26] at H
               have LMc26 := aA c26
               clear c26
               obtain ⟨y269, hy269⟩ : ∃ y_ : List (S32), y_ = (x262002_2 ++ [(⟨t264, t265, t266⟩ : S32)]) := ⟨_, rfl⟩
               replace H : (foghornref12_hush.l0 k2 t256 t259 (l0.drop 2) ((l0.drop 2).length : Int) (wrap64 (x44_2 + 1)) t256 t259 y269) = some (r1, r2, r3, r4, r5, r6) := by first | (rw [hy269]; with_reducible exact H) | (have H2_ := (Option.bind_some _ _).symm.trans H; rw [hy269]; with_reducible exact H2_) | (have H2_ := (Option.bind_some _ _).symm.trans H; with_reducible exact H2_) | with_reducible exact H | (rw [hy269]; exact H) | exact H
               have Ny269 := aA hy269
               clear hy269
               have H' := aA H
               clear H
               have p263 : 0 ≤ (x44_2 : Int) := of_decide_eq_true (by first | (with_reducible assumption) | assumption)
               have q263 : x44_2 < ((l0.drop 2).length : Int) := of_decide_eq_true (by first | (with_reducible assumption) | assumption)
               have q263e : (x44_2 < ((l0.length - 2 : Nat) : Int)) = True := eq_true (by have h_ := q263; rw [List.length_drop] at h_; exact h_)
               obtain ⟨ad263, e263, hx263_0⟩ := Kd.at_string HR262.out x44_2 p263 q263
               cases e263
               replace hx263_0 := (HB.out.cell (World.block_lt_of_cell? w _ hx263_0)).trans hx263_0
               replace p263 := eq_true p263
               replace q263 := eq_true q263
               go_wp2_with (first | ((with_reducible refine gate_callee (f := 13) rfl ?_); refine goesL_ (some 50) rfl rfl Tryz.func13 (by kernel_rfl) rfl #[.string (rdOf ByteArray.empty (l0.drop 2) x44_2)] rfl mS ?_; (with_reducible refine (foghornref12_Asked.calls k2 (rdOf ByteArray.empty (l0.drop 2) x44_2) t264 t265 t266 true _ A24.out).mono ?_); rintro e w27 ⟨rfl, hb⟩; refine ⟨_, rfl, ?_⟩; have n0_ := aA (Kd.R_below (mR HO_262002.out) hb); have n1_ := aA (bB BK254.out hb); have n2_ := aA (bB BK261.out hb); have n3_ := aA (below_step (mD2 GE254.out GE261.out) hb); clear HO_262002 BK254 BK261 HB; have HO_262002 := n0_; have BK254 := n1_; have BK261 := n2_; have HB := n3_; clear n0_ n1_ n2_ n3_; (try clear hb); (try clear hb2); (try clear hk); (try clear hi)) | ((with_reducible refine gate_dst (N := 11) rfl ?_); refine box_event ?hg (N := 11) ?hd (cs := #[.int .i64 0, .string (⟨#[]⟩ : ByteArray), .string (⟨#[]⟩ : ByteArray)]) (t := 32) ?hr ?_; (case hd => rfl); (case hg => rfl); (case hr => first | (go_simp; done) | (go_simp; rfl)); intro gb268 hg w28 hbox hb; have n0_ := aA (Kd.R_below (Kd.R_elderB (mR HO_262002.out) gb268 (Nat.le_of_eq hg.symm)) hb); have n1_ := aA (bB BK254.out hb); have n2_ := aA (bB BK261.out hb); have n3_ := aA (below_step (mD2 GE254.out GE261.out) hb); have n4_ := aA (hbox); have n5_ := aA ((bZ hg (mD2 GE254.out GE261.out))); have n6_ := aA ((bZ hg (mD2 GE254.out GE261.out))); have n7_ := aA ((bL hg BK254.out)); have n8_ := aA ((bG hg BK254.out)); have n9_ := aA ((bL hg BK261.out)); have n10_ := aA ((bG hg BK261.out)); clear HO_262002 BK254 BK261 HB; have HO_262002 := n0_; have BK254 := n1_; have BK261 := n2_; have HB := n3_; have BK268 := n4_; have GW268 := n5_; have GE268 := n6_; have NB254_268 := n7_; have NB268_254 := n8_; have NB261_268 := n9_; have NB268_261 := n10_; clear n0_ n1_ n2_ n3_ n4_ n5_ n6_ n7_ n8_ n9_ n10_ hb hbox hg; have hnb29 := NB268_254.out; have hnc29 := NB254_268.out; have hnb30 := NB268_261.out; have hnc30 := NB261_268.out; obtain ⟨hcz31_0, hcz31_1, hcz31_2⟩ := bC3 BK268.out; obtain ⟨hfz31_0, hfz31_1, hfz31_2⟩ := bF3 BK268.out; have hnb32 := NB261_254.out; have hnc32 := NB254_261.out; obtain ⟨hcz33_0, hcz33_1, hcz33_2⟩ := bC3 BK261.out; obtain ⟨hfz33_0, hfz33_1, hfz33_2⟩ := bF3 BK261.out) | ((with_reducible refine gate_builtin (b := .append) (xs := #[.tmp 57, .tmp 59]) rfl ?_); at_builtin; refine Kd.R_append k32 (w0 := w) w.heap.size rfl (.tmp 57) (.tmp 59) 23 32 (.agg #[(.int .i64 0), (.string ⟨#[]⟩), (.string ⟨#[]⟩)]) 40 rfl Tryz.underlying23 info32 rfl (by decide) (by omega) u262002 x262002_2 (⟨t264, t265, t266⟩ : S32) [.int .i64 t264, .string t265, .string t266] (fun k_ => k_ ≠ gb268) (fun _ => False) rfl (by first | (go_simp; done) | (go_simp; rfl)) ?aP (fun _ hk => hk.elim) ?aF ?aO ?aB ?aS ?aL ?_; (case aP => exact k32_mkM _ _ _ (⟨t264, t265, t266⟩ : S32)); (case aB => exact (mD3 GE254.out GE261.out GE268.out)); (case aF => exact (fun k_ hk => Kd.freshB (g := gb268) (o := .cells #[.int .i64 t264, .string t265, .string t266] 32 (0, 0)) (by (with_reducible repeat (first | refine blk_drewN ?_ _ | refine blk_drew ?_ | refine blk_alloc ?_ _)); have h_ := BK268.out; exact pK 2 (pK 1 (pK 0 (h_)))) k_ hk)); (case aO => exact (by (with_reducible repeat (first | apply Kd.R_alloc | apply Kd.R_drewN | apply Kd.R_drew)); exact Kd.R_mono (rF 2 (rF 1 (rF 0 (Kd.R_mono HO_262002.out (fun k_ hk => (⟨hk, hk.2⟩ : _ ∧ k_ ≠ gb268)))))) (fun _ hk => hk.1.2))); (case aS => exact (below_size (mD3 GE254.out GE261.out GE268.out))); (case aL => have := LMc26.out; omega); intro v270 w34 ho hb hg hat; rw [← Ny269.out] at ho; have n0_ := aA (blk_grown (g := gb254) (o := .cells #[.int .i64 x255000_2, .slice none 0 0, .int .i64 x255002_2, .int .i64 x255003_2, .slice none 0 0] 27 (0, 0)) (by (with_reducible repeat (first | refine blk_drewN ?_ _ | refine blk_drew ?_ | refine blk_alloc ?_ _)); refine blk_far ?_ NB254_268.out _; (with_reducible repeat (first | refine blk_drewN ?_ _ | refine blk_drew ?_ | refine blk_alloc ?_ _)); refine blk_far ?_ NB254_268.out _; (with_reducible repeat (first | refine blk_drewN ?_ _ | refine blk_drew ?_ | refine blk_alloc ?_ _)); refine blk_far ?_ NB254_268.out _; (with_reducible repeat (first | refine blk_drewN ?_ _ | refine blk_drew ?_ | refine blk_alloc ?_ _)); exact BK254.out) hg (Kd.R_ne HO_262002.out BK254.out (by decide))); have n1_ := aA (blk_grown (g := gb261) (o := .cells #[.int .i64 t256, .int .i64 t259, u262002] 25 (0, 0)) (by (with_reducible repeat (first | refine blk_drewN ?_ _ | refine blk_drew ?_ | refine blk_alloc ?_ _)); refine blk_far ?_ NB261_268.out _; (with_reducible repeat (first | refine blk_drewN ?_ _ | refine blk_drew ?_ | refine blk_alloc ?_ _)); refine blk_far ?_ NB261_268.out _; (with_reducible repeat (first | refine blk_drewN ?_ _ | refine blk_drew ?_ | refine blk_alloc ?_ _)); refine blk_far ?_ NB261_268.out _; (with_reducible repeat (first | refine blk_drewN ?_ _ | refine blk_drew ?_ | refine blk_alloc ?_ _)); exact BK261.out) hg (Kd.R_ne HO_262002.out BK261.out (by decide))); have n2_ := aA (blk_grown (g := gb268) (o := .cells #[.int .i64 t264, .string t265, .string t266] 32 (0, 0)) (by (with_reducible repeat (first | refine blk_drewN ?_ _ | refine blk_drew ?_ | refine blk_alloc ?_ _)); have h_ := BK268.out; exact pK 2 (pK 1 (pK 0 (h_)))) hg (Kd.R_away HO_262002.out (fun _ hk => hk.2))); have n3_ := aA (hb); have n4_ := aA (ho); clear BK254 BK261 BK268 HB HO_262002; have BK254 := n0_; have BK261 := n1_; have BK268 := n2_; have HB := n3_; have HO271 := n4_; clear n0_ n1_ n2_ n3_ n4_ ho hb hg hat; obtain ⟨Ao35, co35, eo35⟩ := Kd.R_slice HO271.out; subst eo35; obtain ⟨hcz36_0, hcz36_1, hcz36_2⟩ := bC3 BK261.out; obtain ⟨hfz36_0, hfz36_1, hfz36_2⟩ := bF3 BK261.out))
               go_roundg k2
               case measure => have := HJ8.out; have := HK2.out; omega
               case rel => exact ⟨(wrap64 (x44_2 + 1)), (x255000_2), (x255002_2), (x255003_2), (y269), (.slice Ao35 y269.length co35), (by first | rfl | (simp; done) | (simp [*]; done)), H', ⟨by have := HJ8.out; have := HK2.out; omega⟩, ⟨by (with_reducible repeat (first | apply Kd.R_alloc | apply Kd.R_drewN | apply Kd.R_drew)); exact Kd.R_mono (rF 2 (Kd.R_types HO271.out BK261.out (by decide))) (fun _ hk => trivial)⟩, ⟨by (with_reducible repeat (first | refine blk_drewN ?_ _ | refine blk_drew ?_ | refine blk_alloc ?_ _)); refine blk_far ?_ NB254_261.out _; (with_reducible repeat (first | refine blk_drewN ?_ _ | refine blk_drew ?_ | refine blk_alloc ?_ _)); exact BK254.out⟩, ⟨by (with_reducible repeat (first | refine blk_drewN ?_ _ | refine blk_drew ?_ | refine blk_alloc ?_ _)); refine blk_put (cs := #[.int .i64 t256, .int .i64 t259, u262002]) ?_ 2 _ rfl; (with_reducible repeat (first | refine blk_drewN ?_ _ | refine blk_drew ?_ | refine blk_alloc ?_ _)); exact BK261.out⟩, ⟨by repeat (first | (with_reducible first | exact HB.out | apply below_alloc | apply pw_below_drewN | apply below_drew1 | refine below_set ?_ GE254.out | refine below_set ?_ GE261.out | refine below_set ?_ GE268.out) | exact HB.out)⟩⟩
              ·rw [if_neg c26] at H
               exact absurd H (by simp)
             ·replace c25 := Bool.eq_false_iff.mpr c25
              subst c25
              have H1 : (some (0, ([] : List (S52)), 0, 0, ([] : List (S32)), 13)) = some (r1, r2, r3, r4, r5, r6) := by rw [if_neg (show ¬ (false = true) by decide)] at H; exact H
              clear H
              have H := H1
              clear H1
              simp only [Option.some.injEq, Prod.mk.injEq] at H
              obtain ⟨rfl, rfl, rfl, rfl, rfl, rfl⟩ := H
              have p263 : 0 ≤ (x44_2 : Int) := of_decide_eq_true (by first | (with_reducible assumption) | assumption)
              have q263 : x44_2 < ((l0.drop 2).length : Int) := of_decide_eq_true (by first | (with_reducible assumption) | assumption)
              have q263e : (x44_2 < ((l0.length - 2 : Nat) : Int)) = True := eq_true (by have h_ := q263; rw [List.length_drop] at h_; exact h_)
              obtain ⟨ad263, e263, hx263_0⟩ := Kd.at_string HR262.out x44_2 p263 q263
              cases e263
              replace hx263_0 := (HB.out.cell (World.block_lt_of_cell? w _ hx263_0)).trans hx263_0
              replace p263 := eq_true p263
              replace q263 := eq_true q263
              go_wp2_with (first | ((with_reducible refine gate_callee (f := 13) rfl ?_); refine goesL_ (some 50) rfl rfl Tryz.func13 (by kernel_rfl) rfl #[.string (rdOf ByteArray.empty (l0.drop 2) x44_2)] rfl mS ?_; (with_reducible refine (foghornref12_Asked.calls k2 (rdOf ByteArray.empty (l0.drop 2) x44_2) t264 t265 t266 false _ A24.out).mono ?_); rintro e w37 ⟨rfl, hb⟩; refine ⟨_, rfl, ?_⟩; have n0_ := aA (Kd.R_below (mR HO_262002.out) hb); have n1_ := aA (bB BK254.out hb); have n2_ := aA (bB BK261.out hb); have n3_ := aA (below_step (mD2 GE254.out GE261.out) hb); clear HO_262002 BK254 BK261 HB; have HO_262002 := n0_; have BK254 := n1_; have BK261 := n2_; have HB := n3_; clear n0_ n1_ n2_ n3_; (try clear hb); (try clear hb2); (try clear hk); (try clear hi)) | ((with_reducible refine gate_dst (N := 11) rfl ?_); refine box_event ?hg (N := 11) ?hd (cs := #[.int .i64 0, .string (⟨#[]⟩ : ByteArray), .string (⟨#[]⟩ : ByteArray)]) (t := 32) ?hr ?_; (case hd => rfl); (case hg => rfl); (case hr => first | (go_simp; done) | (go_simp; rfl)); intro gb268 hg w38 hbox hb; have n0_ := aA (Kd.R_below (Kd.R_elderB (mR HO_262002.out) gb268 (Nat.le_of_eq hg.symm)) hb); have n1_ := aA (bB BK254.out hb); have n2_ := aA (bB BK261.out hb); have n3_ := aA (below_step (mD2 GE254.out GE261.out) hb); have n4_ := aA (hbox); have n5_ := aA ((bZ hg (mD2 GE254.out GE261.out))); have n6_ := aA ((bZ hg (mD2 GE254.out GE261.out))); have n7_ := aA ((bL hg BK254.out)); have n8_ := aA ((bG hg BK254.out)); have n9_ := aA ((bL hg BK261.out)); have n10_ := aA ((bG hg BK261.out)); clear HO_262002 BK254 BK261 HB; have HO_262002 := n0_; have BK254 := n1_; have BK261 := n2_; have HB := n3_; have BK268 := n4_; have GW268 := n5_; have GE268 := n6_; have NB254_268 := n7_; have NB268_254 := n8_; have NB261_268 := n9_; have NB268_261 := n10_; clear n0_ n1_ n2_ n3_ n4_ n5_ n6_ n7_ n8_ n9_ n10_ hb hbox hg; have hnb39 := NB268_254.out; have hnc39 := NB254_268.out; have hnb40 := NB268_261.out; have hnc40 := NB261_268.out; obtain ⟨hcz41_0, hcz41_1, hcz41_2⟩ := bC3 BK268.out; obtain ⟨hfz41_0, hfz41_1, hfz41_2⟩ := bF3 BK268.out; have hnb42 := NB254_261.out; have hnc42 := NB261_254.out; obtain ⟨hcz43_0, hcz43_1, hcz43_2, hcz43_3, hcz43_4⟩ := bC5 BK254.out; obtain ⟨hfz43_0, hfz43_1, hfz43_2, hfz43_3, hfz43_4⟩ := bF5 BK254.out))
              refine bodyPost_ret (results_ct rfl _ _ gb254 27 #[.int .i64 0, .slice none 0 0, .int .i64 0, .int .i64 0, .slice none 0 0] (0, 0) _ rfl (by (with_reducible repeat (first | refine blk_drewN ?_ _ | refine blk_drew ?_ | refine blk_alloc ?_ _)); refine blk_put (cs := #[.int .i64 0, .slice none 0 0, .int .i64 0, .int .i64 0, .slice none 0 0]) ?_ 4 _ rfl; (with_reducible repeat (first | refine blk_drewN ?_ _ | refine blk_drew ?_ | refine blk_alloc ?_ _)); refine blk_put (cs := #[.int .i64 0, .slice none 0 0, .int .i64 0, .int .i64 x255003_2, .slice none 0 0]) ?_ 3 _ rfl; (with_reducible repeat (first | refine blk_drewN ?_ _ | refine blk_drew ?_ | refine blk_alloc ?_ _)); refine blk_put (cs := #[.int .i64 0, .slice none 0 0, .int .i64 x255002_2, .int .i64 x255003_2, .slice none 0 0]) ?_ 2 _ rfl; (with_reducible repeat (first | refine blk_drewN ?_ _ | refine blk_drew ?_ | refine blk_alloc ?_ _)); refine blk_put (cs := #[.int .i64 0, .slice none 0 0, .int .i64 x255002_2, .int .i64 x255003_2, .slice none 0 0]) ?_ 1 _ rfl; (with_reducible repeat (first | refine blk_drewN ?_ _ | refine blk_drew ?_ | refine blk_alloc ?_ _)); refine blk_put (cs := #[.int .i64 x255000_2, .slice none 0 0, .int .i64 x255002_2, .int .i64 x255003_2, .slice none 0 0]) ?_ 0 _ rfl; (with_reducible repeat (first | refine blk_drewN ?_ _ | refine blk_drew ?_ | refine blk_alloc ?_ _)); refine blk_far ?_ NB254_268.out _; (with_reducible repeat (first | refine blk_drewN ?_ _ | refine blk_drew ?_ | refine blk_alloc ?_ _)); refine blk_far ?_ NB254_268.out _; (with_reducible repeat (first | refine blk_drewN ?_ _ | refine blk_drew ?_ | refine blk_alloc ?_ _)); refine blk_far ?_ NB254_268.out _; (with_reducible repeat (first | refine blk_drewN ?_ _ | refine blk_drew ?_ | refine blk_alloc ?_ _)); exact BK254.out) Tryz.underlying27 rfl (by kernel_rfl)) rfl ?_
              exact ⟨_, _, by first | rfl | (simp [errW_none, errW_some] <;> rfl) | (simp [*, errW_none, errW_some] <;> rfl), by first | exact Kd.R_nil _ _ _ _ _ | exact Kd.N_nil _ _ _ _ _ | exact Kd.V_nil _ _ _ _ _ | exact Kd.Q_nil _ _ _ _ _ | exact Kd.S_nil _ _ _ _ _, by first | exact Kd.R_nil _ _ _ _ _ | exact Kd.N_nil _ _ _ _ _ | exact Kd.V_nil _ _ _ _ _ | exact Kd.Q_nil _ _ _ _ _ | exact Kd.S_nil _ _ _ _ _, by repeat (first | (with_reducible first | exact HB.out | apply below_alloc | apply pw_below_drewN | apply below_drew1 | refine below_set ?_ GE254.out | refine below_set ?_ GE261.out | refine below_set ?_ GE268.out) | exact HB.out)⟩
            ·rw [if_neg c23] at H
             exact absurd H (by simp)
           ·rw [if_neg c22] at H
            exact absurd H (by simp)
          ·rw [if_neg c21] at H
           have c21b0 : decide (x44_2 < ((l0.drop 2).length : Int)) = false := decide_eq_false c21
           have c21b0d : decide (x44_2 < ((l0.length - 2 : Nat) : Int)) = false := by have h_ := c21b0; rw [List.length_drop] at h_; exact h_
           clear c21
           by_cases c44 : (x262002_2.length : Int) > 4
           ·rw [if_pos c44] at H
            have c44b0 : decide (4 < (x262002_2.length : Int)) = true := decide_eq_true c44
            have c44b1 : decide (4 < x262002_2.length) = true := decide_eq_true (by omega)
            clear c44
            simp only [Option.some.injEq, Prod.mk.injEq] at H
            obtain ⟨rfl, rfl, rfl, rfl, rfl, rfl⟩ := H
            have hnb45 := NB261_254.out
            have hnc45 := NB254_261.out
            obtain ⟨hcz46_0, hcz46_1, hcz46_2⟩ := bC3 BK261.out
            obtain ⟨hfz46_0, hfz46_1, hfz46_2⟩ := bF3 BK261.out
            obtain ⟨Ao47, co47, eo47⟩ := Kd.R_slice HO_262002.out
            subst eo47
            obtain ⟨hcz48_0, hcz48_1, hcz48_2, hcz48_3, hcz48_4⟩ := bC5 BK254.out
            obtain ⟨hfz48_0, hfz48_1, hfz48_2, hfz48_3, hfz48_4⟩ := bF5 BK254.out
            go_wp2
            refine bodyPost_ret (results_ct rfl _ _ gb254 27 #[.int .i64 0, .slice none 0 0, .int .i64 0, .int .i64 0, .slice none 0 0] (0, 0) _ rfl (by (with_reducible repeat (first | refine blk_drewN ?_ _ | refine blk_drew ?_ | refine blk_alloc ?_ _)); have h_ := BK254.out; exact pK 4 (pK 3 (pK 2 (pK 1 (pK 0 (h_)))))) Tryz.underlying27 rfl (by kernel_rfl)) rfl ?_
            exact ⟨_, _, by first | rfl | (simp [errW_none, errW_some] <;> rfl) | (simp [*, errW_none, errW_some] <;> rfl), by first | exact Kd.R_nil _ _ _ _ _ | exact Kd.N_nil _ _ _ _ _ | exact Kd.V_nil _ _ _ _ _ | exact Kd.Q_nil _ _ _ _ _ | exact Kd.S_nil _ _ _ _ _, by first | exact Kd.R_nil _ _ _ _ _ | exact Kd.N_nil _ _ _ _ _ | exact Kd.V_nil _ _ _ _ _ | exact Kd.Q_nil _ _ _ _ _ | exact Kd.S_nil _ _ _ _ _, by repeat (first | (with_reducible first | exact HB.out | apply below_alloc | apply pw_below_drewN | apply below_drew1 | refine below_set ?_ GE254.out | refine below_set ?_ GE261.out) | exact HB.out)⟩
           ·rw [if_neg c44] at H
            have c44b0 : decide (4 < (x262002_2.length : Int)) = false := decide_eq_false c44
            have c44b1 : decide (4 < x262002_2.length) = false := decide_eq_false (by omega)
            clear c44
            by_cases c49 : t256 ≥ t259
            ·rw [if_pos c49] at H
             have c49b0 : decide (t259 ≤ t256) = true := decide_eq_true c49
             clear c49
             simp only [Option.some.injEq, Prod.mk.injEq] at H
             obtain ⟨rfl, rfl, rfl, rfl, rfl, rfl⟩ := H
             have hnb50 := NB261_254.out
             have hnc50 := NB254_261.out
             obtain ⟨hcz51_0, hcz51_1, hcz51_2⟩ := bC3 BK261.out
             obtain ⟨hfz51_0, hfz51_1, hfz51_2⟩ := bF3 BK261.out
             obtain ⟨Ao52, co52, eo52⟩ := Kd.R_slice HO_262002.out
             subst eo52
             obtain ⟨hcz53_0, hcz53_1, hcz53_2, hcz53_3, hcz53_4⟩ := bC5 BK254.out
             obtain ⟨hfz53_0, hfz53_1, hfz53_2, hfz53_3, hfz53_4⟩ := bF5 BK254.out
             go_wp2
             refine bodyPost_ret (results_ct rfl _ _ gb254 27 #[.int .i64 0, .slice none 0 0, .int .i64 0, .int .i64 0, .slice none 0 0] (0, 0) _ rfl (by (with_reducible repeat (first | refine blk_drewN ?_ _ | refine blk_drew ?_ | refine blk_alloc ?_ _)); have h_ := BK254.out; exact pK 4 (pK 3 (pK 2 (pK 1 (pK 0 (h_)))))) Tryz.underlying27 rfl (by kernel_rfl)) rfl ?_
             exact ⟨_, _, by first | rfl | (simp [errW_none, errW_some] <;> rfl) | (simp [*, errW_none, errW_some] <;> rfl), by first | exact Kd.R_nil _ _ _ _ _ | exact Kd.N_nil _ _ _ _ _ | exact Kd.V_nil _ _ _ _ _ | exact Kd.Q_nil _ _ _ _ _ | exact Kd.S_nil _ _ _ _ _, by first | exact Kd.R_nil _ _ _ _ _ | exact Kd.N_nil _ _ _ _ _ | exact Kd.V_nil _ _ _ _ _ | exact Kd.Q_nil _ _ _ _ _ | exact Kd.S_nil _ _ _ _ _, by repeat (first | (with_reducible first | exact HB.out | apply below_alloc | apply pw_below_drewN | apply below_drew1 | refine below_set ?_ GE254.out | refine below_set ?_ GE261.out) | exact HB.out)⟩
            ·rw [if_neg c49] at H
             have c49b0 : decide (t259 ≤ t256) = false := decide_eq_false c49
             clear c49
             simp only [Option.some.injEq, Prod.mk.injEq] at H
             obtain ⟨rfl, rfl, rfl, rfl, rfl, rfl⟩ := H
             have hnb54 := NB261_254.out
             have hnc54 := NB254_261.out
             obtain ⟨hcz55_0, hcz55_1, hcz55_2⟩ := bC3 BK261.out
             obtain ⟨hfz55_0, hfz55_1, hfz55_2⟩ := bF3 BK261.out
             obtain ⟨Ao56, co56, eo56⟩ := Kd.R_slice HO_262002.out
             subst eo56
             obtain ⟨hcz57_0, hcz57_1, hcz57_2, hcz57_3, hcz57_4⟩ := bC5 BK254.out
             obtain ⟨hfz57_0, hfz57_1, hfz57_2, hfz57_3, hfz57_4⟩ := bF5 BK254.out
             go_wp2
             refine bodyPost_ret (results_ct rfl _ _ gb254 27 #[.int .i64 2, .slice none 0 0, .int .i64 t256, .int .i64 t259, .slice Ao56 x262002_2.length co56] (0, 0) _ rfl (by (with_reducible repeat (first | refine blk_drewN ?_ _ | refine blk_drew ?_ | refine blk_alloc ?_ _)); have h_ := BK254.out; exact pK 4 (pK 3 (pK 2 (pK 1 (pK 0 (h_)))))) Tryz.underlying27 rfl (by kernel_rfl)) rfl ?_
             exact ⟨_, _, by first | rfl | (simp [errW_none, errW_some] <;> rfl) | (simp [*, errW_none, errW_some] <;> rfl), by first | exact Kd.R_nil _ _ _ _ _ | exact Kd.N_nil _ _ _ _ _ | exact Kd.V_nil _ _ _ _ _ | exact Kd.Q_nil _ _ _ _ _ | exact Kd.S_nil _ _ _ _ _, by (with_reducible repeat (first | apply Kd.R_alloc | apply Kd.R_drewN | apply Kd.R_drew)); exact Kd.R_mono (rF 4 (rF 3 (rF 2 (rF 1 (rF 0 (Kd.R_types HO_262002.out BK254.out (by decide))))))) (fun _ hk => trivial), by repeat (first | (with_reducible first | exact HB.out | apply below_alloc | apply pw_below_drewN | apply below_drew1 | refine below_set ?_ GE254.out | refine below_set ?_ GE261.out) | exact HB.out)⟩
       ·rw [if_neg c16] at H
        exact absurd H (by simp)
   ·rw [if_neg c7] at H
    exact absurd H (by simp)
  ·rw [if_neg c5] at H
   exact absurd H (by simp)
end Go.Proofs.YtjfknmlchdifjaaGreatDoorQ.P
namespace Go.Proofs.YtjfknmlchdifjaaGreatDoorQ.P
open Go.RowKit Go.Proofs.YtjfknmlchdifjaaGreatDoorW.PrintWords Go.Proofs.YtjfknmlchdifjaaGreatDoorW.PrintLast Go.Proofs.YtjfknmlchdifjaaGreatDoorW.PrintMore
attribute [local go_sem] max2_int min2_int max_two min_two max_three min_three max_four min_four
def foghornref12_Parse.f (k : Nat) (a0 : ByteArray) : Option (Int × (List (S52)) × Int × Int × (List (S32)) × Int) := if (a0.size : Int) > 200 then (some (0, ([] : List (S52)), 0, 0, ([] : List (S32)), 2)) else ((foghornref12_Words.f k a0).bind fun t273 => (if 0 < (t273.length : Int) then (if (rdOf ByteArray.empty t273 0).toList = ([102, 105, 114, 101] : List UInt8) then (if 1 ≤ (t273.length : Int) then ((foghornref12_alert.f k 0 (t273.drop 1)).bind fun bt281 => (some (bt281.1, bt281.2.1, bt281.2.2.1, bt281.2.2.2.1, bt281.2.2.2.2.1, bt281.2.2.2.2.2))) else (none)) else (if (rdOf ByteArray.empty t273 0).toList = ([100, 111, 110, 101] : List UInt8) then (if 1 ≤ (t273.length : Int) then ((foghornref12_alert.f k 1 (t273.drop 1)).bind fun bt296 => (some (bt296.1, bt296.2.1, bt296.2.2.1, bt296.2.2.2.1, bt296.2.2.2.2.1, bt296.2.2.2.2.2))) else (none)) else (if (rdOf ByteArray.empty t273 0).toList = ([104, 117, 115, 104] : List UInt8) then (if 1 ≤ (t273.length : Int) then ((foghornref12_hush.f k (t273.drop 1)).bind fun bt311 => (some (bt311.1, bt311.2.1, bt311.2.2.1, bt311.2.2.2.1, bt311.2.2.2.2.1, bt311.2.2.2.2.2))) else (none)) else (some (0, ([] : List (S52)), 0, 0, ([] : List (S32)), 10))))) else (none)))
theorem foghornref12_Parse.mono : ∀ a0 k, LeO (foghornref12_Parse.f k a0) (foghornref12_Parse.f (k + 1) a0) := by
 intro a0 k
 unfold foghornref12_Parse.f
 repeat' first
   | (with_reducible exact foghornref12_Words.mono _ _)
   | (with_reducible exact foghornref12_alert.mono _ _ _)
   | (with_reducible exact foghornref12_hush.mono _ _)
   | (with_reducible exact LeO.refl _)
   | (with_reducible exact LeO.none _)
   | (with_reducible refine LeO.ite ?_ ?_)
   | (with_reducible refine LeO.bind ?_ (fun _ => ?_))
   | exact foghornref12_Words.mono _ _
   | exact foghornref12_alert.mono _ _ _
   | exact foghornref12_hush.mono _ _
   | exact LeO.none _
   | refine LeO.ite ?_ ?_
   | refine LeO.bind ?_ (fun _ => ?_)
set_option maxHeartbeats 8000000 in
set_option maxRecDepth 100000 in
theorem foghornref12_Parse.calls (k : Nat) (a0 : ByteArray) (r1 : Int) (r2 : List (S52)) (r3 : Int) (r4 : Int) (r5 : List (S32)) (r6 : Int) (w : World) (h : foghornref12_Parse.f k a0 = some (r1, r2, r3, r4, r5, r6)) :
  Calls Tryz.prog 11 #[.string a0] w fun e w' => ∃ v1_ v4_ : Value, e = .returned (.tuple #[.agg #[.int .i64 r1, v1_, .int .i64 r3, .int .i64 r4, v4_], .int .i64 r6]) ∧ Kd.R k52 52 w' w.heap.size (fun _ => True) v1_ r2 ∧ Kd.R k32 32 w' w.heap.size (fun _ => True) v4_ r5 ∧ Below w.heap.size w w' := by
 have hu27 := Tryz.underlying27
 have HB := aA (Below.refl w.heap.size w)
 have H : (if (a0.size : Int) > 200 then (some (0, ([] : List (S52)), 0, 0, ([] : List (S32)), 2)) else ((foghornref12_Words.f k a0).bind fun t273 => (if 0 < (t273.length : Int) then (if (rdOf ByteArray.empty t273 0).toList = ([102, 105, 114, 101] : List UInt8) then (if 1 ≤ (t273.length : Int) then ((foghornref12_alert.f k 0 (t273.drop 1)).bind fun bt281 => (some (bt281.1, bt281.2.1, bt281.2.2.1, bt281.2.2.2.1, bt281.2.2.2.2.1, bt281.2.2.2.2.2))) else (none)) else (if (rdOf ByteArray.empty t273 0).toList = ([100, 111, 110, 101] : List UInt8) then (if 1 ≤ (t273.length : Int) then ((foghornref12_alert.f k 1 (t273.drop 1)).bind fun bt296 => (some (bt296.1, bt296.2.1, bt296.2.2.1, bt296.2.2.2.1, bt296.2.2.2.2.1, bt296.2.2.2.2.2))) else (none)) else (if (rdOf ByteArray.empty t273 0).toList = ([104, 117, 115, 104] : List UInt8) then (if 1 ≤ (t273.length : Int) then ((foghornref12_hush.f k (t273.drop 1)).bind fun bt311 => (some (bt311.1, bt311.2.1, bt311.2.2.1, bt311.2.2.2.1, bt311.2.2.2.2.1, bt311.2.2.2.2.2))) else (none)) else (some (0, ([] : List (S52)), 0, 0, ([] : List (S32)), 10))))) else (none)))) = some (r1, r2, r3, r4, r5, r6) := h
 clear h
 by_cases c2 : (a0.size : Int) > 200
 ·rw [if_pos c2] at H
  have c2b0 : decide (200 < (a0.size : Int)) = true := decide_eq_true c2
  have c2b1 : decide (200 < a0.size) = true := decide_eq_true (by omega)
  clear c2
  simp only [Option.some.injEq, Prod.mk.injEq] at H
  obtain ⟨rfl, rfl, rfl, rfl, rfl, rfl⟩ := H
  go_enter Tryz.func11, Tryz.ntmps11
  go_wp2_with (first | ((with_reducible refine gate_dst (N := 2) rfl ?_); refine box_event ?hg (N := 2) ?hd (cs := #[.int .i64 0, .slice none 0 0, .int .i64 0, .int .i64 0, .slice none 0 0]) (t := 27) ?hr ?_; (case hd => rfl); (case hg => rfl); (case hr => first | (go_simp; done) | (go_simp; rfl)); intro gb272 hg w3 hbox hb; have n0_ := aA (below_step mB hb); have n1_ := aA (hbox); have n2_ := aA ((bZ hg mB)); have n3_ := aA ((bZ hg mB)); clear HB; have HB := n0_; have BK272 := n1_; have GW272 := n2_; have GE272 := n3_; clear n0_ n1_ n2_ n3_ hb hbox hg; obtain ⟨hcz4_0, hcz4_1, hcz4_2, hcz4_3, hcz4_4⟩ := bC5 BK272.out; obtain ⟨hfz4_0, hfz4_1, hfz4_2, hfz4_3, hfz4_4⟩ := bF5 BK272.out))
  refine bodyPost_ret (results_ct rfl _ _ gb272 27 #[.int .i64 0, .slice none 0 0, .int .i64 0, .int .i64 0, .slice none 0 0] (0, 0) _ rfl (by (with_reducible repeat (first | refine blk_drewN ?_ _ | refine blk_drew ?_ | refine blk_alloc ?_ _)); have h_ := BK272.out; exact pK 4 (pK 3 (pK 2 (pK 1 (pK 0 (h_)))))) Tryz.underlying27 rfl (by kernel_rfl)) rfl ?_
  exact ⟨_, _, by first | rfl | (simp [errW_none, errW_some] <;> rfl) | (simp [*, errW_none, errW_some] <;> rfl), by first | exact Kd.R_nil _ _ _ _ _ | exact Kd.N_nil _ _ _ _ _ | exact Kd.V_nil _ _ _ _ _ | exact Kd.Q_nil _ _ _ _ _ | exact Kd.S_nil _ _ _ _ _, by first | exact Kd.R_nil _ _ _ _ _ | exact Kd.N_nil _ _ _ _ _ | exact Kd.V_nil _ _ _ _ _ | exact Kd.Q_nil _ _ _ _ _ | exact Kd.S_nil _ _ _ _ _, by repeat (first | (with_reducible first | exact HB.out | apply below_alloc | apply pw_below_drewN | apply below_drew1 | refine below_set ?_ GE272.out) | exact HB.out)⟩
 ·rw [if_neg c2] at H
  have c2b0 : decide (200 < (a0.size : Int)) = false := decide_eq_false c2
  have c2b1 : decide (200 < a0.size) = false := decide_eq_false (by omega)
  clear c2
  replace H := Option.bind_eq_some_iff.mp H
  obtain ⟨t273, A50, H⟩ := H
  replace H : (if 0 < (t273.length : Int) then (if (rdOf ByteArray.empty t273 0).toList = ([102, 105, 114, 101] : List UInt8) then (if 1 ≤ (t273.length : Int) then ((foghornref12_alert.f k 0 (t273.drop 1)).bind fun bt281 => (some (bt281.1, bt281.2.1, bt281.2.2.1, bt281.2.2.2.1, bt281.2.2.2.2.1, bt281.2.2.2.2.2))) else (none)) else (if (rdOf ByteArray.empty t273 0).toList = ([100, 111, 110, 101] : List UInt8) then (if 1 ≤ (t273.length : Int) then ((foghornref12_alert.f k 1 (t273.drop 1)).bind fun bt296 => (some (bt296.1, bt296.2.1, bt296.2.2.1, bt296.2.2.2.1, bt296.2.2.2.2.1, bt296.2.2.2.2.2))) else (none)) else (if (rdOf ByteArray.empty t273 0).toList = ([104, 117, 115, 104] : List UInt8) then (if 1 ≤ (t273.length : Int) then ((foghornref12_hush.f k (t273.drop 1)).bind fun bt311 => (some (bt311.1, bt311.2.1, bt311.2.2.1, bt311.2.2.2.1, bt311.2.2.2.2.1, bt311.2.2.2.2.2))) else (none)) else (some (0, ([] : List (S52)), 0, 0, ([] : List (S32)), 10))))) else (none)) = some (r1, r2, r3, r4, r5, r6) := H
  have A5 := aA A50
  clear A50
  by_cases c6 : 0 < (t273.length : Int)
  ·rw [if_pos c6] at H
   have c6b0 : decide (0 < (t273.length : Int)) = true := decide_eq_true c6
   have c6b1 : decide (0 < t273.length) = true := decide_eq_true (by omega)
   clear c6
   by_cases c7 : (rdOf ByteArray.empty t273 0).toList = ([102, 105, 114, 101] : List UInt8)
   ·rw [if_pos c7] at H
    have c7b0 : ((rdOf ByteArray.empty t273 0).toList == ([102, 105, 114, 101] : List UInt8)) = true := beq_iff_eq.mpr c7
    have c7b1 : ((rdOf ByteArray.empty t273 0).toList != ([102, 105, 114, 101] : List UInt8)) = false := bne_eq_false_iff_eq.mpr c7
    clear c7
    by_cases c8 : 1 ≤ (t273.length : Int)
    ·rw [if_pos c8] at H
     have c8b0 := eq_true c8
     have c8b1 := decide_eq_true c8
     clear c8
     obtain ⟨y277, hy277⟩ : ∃ y_ : List ByteArray, y_ = (t273.drop 1) := ⟨_, rfl⟩
     replace H : ((foghornref12_alert.f k 0 y277).bind fun bt281 => (some (bt281.1, bt281.2.1, bt281.2.2.1, bt281.2.2.2.1, bt281.2.2.2.2.1, bt281.2.2.2.2.2))) = some (r1, r2, r3, r4, r5, r6) := by first | (rw [hy277]; with_reducible exact H) | (have H2_ := (Option.bind_some _ _).symm.trans H; rw [hy277]; with_reducible exact H2_) | (have H2_ := (Option.bind_some _ _).symm.trans H; with_reducible exact H2_) | with_reducible exact H | (rw [hy277]; exact H) | exact H
     have Ny277 := aA hy277
     clear hy277
     replace H := Option.bind_eq_some_iff.mp H
     obtain ⟨⟨t281, t282, t285, t286, t287, t290⟩, A90, H⟩ := H
     replace H : (some (t281, t282, t285, t286, t287, t290)) = some (r1, r2, r3, r4, r5, r6) := H
     have A9 := aA A90
     clear A90
     simp only [Option.some.injEq, Prod.mk.injEq] at H
     obtain ⟨rfl, rfl, rfl, rfl, rfl, rfl⟩ := H
     go_enter Tryz.func11, Tryz.ntmps11
     go_wp2_with (first | ((with_reducible refine gate_dst (N := 2) rfl ?_); refine box_event ?hg (N := 2) ?hd (cs := #[.int .i64 0, .slice none 0 0, .int .i64 0, .int .i64 0, .slice none 0 0]) (t := 27) ?hr ?_; (case hd => rfl); (case hg => rfl); (case hr => first | (go_simp; done) | (go_simp; rfl)); intro gb272 hg w10 hbox hb; have n0_ := aA (below_step mB hb); have n1_ := aA (hbox); have n2_ := aA ((bZ hg mB)); have n3_ := aA ((bZ hg mB)); clear HB; have HB := n0_; have BK272 := n1_; have GW272 := n2_; have GE272 := n3_; clear n0_ n1_ n2_ n3_ hb hbox hg) | ((with_reducible refine gate_callee (f := 37) rfl ?_); refine goesL_ (some 10) rfl rfl Tryz.func37 (by kernel_rfl) rfl #[.string a0] rfl mS ?_; (with_reducible refine (foghornref12_Words.calls k a0 t273 _ A5.out).mono ?_); rintro e w11 ⟨v274, rfl, ho0, hb⟩; refine ⟨_, rfl, ?_⟩; have n0_ := aA (Kd.R_lower ho0 (below_size (mD1 GE272.out))); have n1_ := aA (bB BK272.out hb); have n2_ := aA (below_step (mD1 GE272.out) hb); clear BK272 HB; have HO275 := n0_; have BK272 := n1_; have HB := n2_; clear n0_ n1_ n2_; (try clear hb); (try clear hb2); (try clear hk); (try clear hi); (try clear ho0); obtain ⟨Ao12, co12, eo12⟩ := Kd.R_slice HO275.out; subst eo12; have p276 : 0 ≤ (0 : Int) := (by omega); have q276 : 0 < (t273.length : Int) := of_decide_eq_true (by first | (with_reducible assumption) | assumption); obtain ⟨ad276, e276, hx276_0⟩ := Kd.at_string (Kd.R_reads' HO275.out).2.2 0 p276 q276; cases e276; have qi276 : (0 < t273.length) = True := eq_true (by omega); (try rw [show ((0 : Int)).toNat = 0 from rfl] at hx276_0); (try rw [Addr.add_zero'] at hx276_0); replace p276 := eq_true p276; replace q276 := eq_true q276; have q13 : (1 : Int) ≤ ((t273.length : Int) : Int) := of_decide_eq_true (by first | (with_reducible assumption) | assumption); obtain ⟨i013, hi013, _, hsz13, _⟩ := info_parts info9; have hroom13 : t273.length ≤ co12 := (Kd.R_reads' HO275.out).2.1; have hC13 : Kd.C Kd.string _ (some ad276) t273.length t273 := (Kd.R_reads' HO275.out).2.2; have hcut13 := cut_from (P := Tryz.prog) 67 9 .i64 Tryz.underlying67 hi013 1 hsz13 (some ad276) t273.length co12 1 (by omega) q13; have hr13 := Kd.C_drop (m := (1 : Int).toNat) (c := co12) hC13 (by omega) hroom13; obtain ⟨A13, hA13⟩ : ∃ A1, A1 = (if co12 = (1 : Int).toNat then (some ad276) else ((some ad276) : Option Addr).map (·.add ((1 : Int).toNat * 1))) := ⟨_, rfl⟩; obtain ⟨c13, hc13⟩ : ∃ c1, c1 = co12 - (1 : Int).toNat := ⟨_, rfl⟩; have hy13 : y277.length = t273.length - (1 : Int).toNat := (by rw [Ny277.out, List.length_drop] <;> omega); rw [show (t273).drop (1 : Int).toNat = y277 from Ny277.out.symm] at hr13; replace hr13 : Kd.C Kd.string _ A13 y277.length y277 := (by rw [hA13]; exact hr13); rw [← hy13, ← hA13, ← hc13] at hcut13; have HR280 := aA hr13; have HC280 := aA (show y277.length ≤ c13 from by rw [hy13, hc13]; exact Nat.sub_le_sub_right hroom13 _); clear hr13 hC13 hroom13 hi013 hsz13 hc13; have KY13 := aA hy13; have KA13 := aA hA13; clear hy13 hA13; have KL13 := aA (show 1 ≤ t273.length from by omega); replace q13 := eq_true q13) | ((with_reducible refine gate_callee (f := 38) rfl ?_); refine goesL_ (some 17) rfl rfl Tryz.func38 (by kernel_rfl) rfl #[.int .i64 0, .slice A13 y277.length c13] rfl mS ?_; (with_reducible refine (foghornref12_alert.calls k 0 _ _ y277 t281 t282 t285 t286 t287 t290 _ ?side1 ?side2 A9.out).mono ?_); (case side1 => repeat (first | exact (by repeat (first | (with_reducible exact HR280.out) | (with_reducible refine Kd.C_alloc ?_ _) | (with_reducible refine Kd.C_drewN ?_ _) | (with_reducible refine Kd.C_drew ?_) | exact HR280.out)) | (with_reducible refine Kd.C_alloc ?_ _) | (with_reducible refine Kd.C_drewN ?_ _) | (with_reducible refine Kd.C_drew ?_))); (case side2 => exact HC280.out); rintro e w14 ⟨v283, v288, rfl, ho0, ho1, hb⟩; refine ⟨_, rfl, ?_⟩; have n0_ := aA (Kd.R_below (mR HO275.out) hb); have n1_ := aA (Kd.R_lower ho0 (below_size (mD1 GE272.out))); have n2_ := aA (Kd.R_lower ho1 (below_size (mD1 GE272.out))); have n3_ := aA (bB BK272.out hb); have n4_ := aA (Kd.C_below (by repeat (first | (with_reducible exact HR280.out) | (with_reducible refine Kd.C_alloc ?_ _) | (with_reducible refine Kd.C_drewN ?_ _) | (with_reducible refine Kd.C_drew ?_) | exact HR280.out)) hb); have n5_ := aA (below_step (mD1 GE272.out) hb); clear HO275 BK272 HR280 HB; have HO275 := n0_; have HO284 := n1_; have HO289 := n2_; have BK272 := n3_; have HR280 := n4_; have HB := n5_; clear n0_ n1_ n2_ n3_ n4_ n5_; (try clear hb); (try clear hb2); (try clear hk); (try clear hi); (try clear ho0); (try clear ho1); obtain ⟨hcz15_0, hcz15_1, hcz15_2, hcz15_3, hcz15_4⟩ := bC5 BK272.out; obtain ⟨hfz15_0, hfz15_1, hfz15_2, hfz15_3, hfz15_4⟩ := bF5 BK272.out; obtain ⟨Ao16, co16, eo16⟩ := Kd.R_slice HO284.out; subst eo16; obtain ⟨Ao17, co17, eo17⟩ := Kd.R_slice HO289.out; subst eo17))
     refine bodyPost_ret (results_ct rfl _ _ gb272 27 #[.int .i64 t281, .slice Ao16 t282.length co16, .int .i64 t285, .int .i64 t286, .slice Ao17 t287.length co17] (0, 0) _ rfl (by (with_reducible repeat (first | refine blk_drewN ?_ _ | refine blk_drew ?_ | refine blk_alloc ?_ _)); have h_ := BK272.out; exact pK 4 (pK 3 (pK 2 (pK 1 (pK 0 (h_)))))) Tryz.underlying27 rfl (by kernel_rfl)) rfl ?_
     exact ⟨_, _, by first | rfl | (simp [errW_none, errW_some] <;> rfl) | (simp [*, errW_none, errW_some] <;> rfl), by (with_reducible repeat (first | apply Kd.R_alloc | apply Kd.R_drewN | apply Kd.R_drew)); exact Kd.R_mono (rF 4 (rF 3 (rF 2 (rF 1 (rF 0 (Kd.R_types HO284.out BK272.out (by decide))))))) (fun _ hk => trivial), by (with_reducible repeat (first | apply Kd.R_alloc | apply Kd.R_drewN | apply Kd.R_drew)); exact Kd.R_mono (rF 4 (rF 3 (rF 2 (rF 1 (rF 0 (Kd.R_types HO289.out BK272.out (by decide))))))) (fun _ hk => trivial), by repeat (first | (with_reducible first | exact HB.out | apply below_alloc | apply pw_below_drewN | apply below_drew1 | refine below_set ?_ GE272.out) | exact HB.out)⟩
    ·rw [if_neg c8] at H
     exact absurd H (by simp)
   ·rw [if_neg c7] at H
    have c7b0 : ((rdOf ByteArray.empty t273 0).toList == ([102, 105, 114, 101] : List UInt8)) = false := beq_eq_false_iff_ne.mpr c7
    have c7b1 : ((rdOf ByteArray.empty t273 0).toList != ([102, 105, 114, 101] : List UInt8)) = true := bne_iff_ne.mpr c7
    by_cases c18 : (rdOf ByteArray.empty t273 0).toList = ([100, 111, 110, 101] : List UInt8)
    ·rw [if_pos c18] at H
     have c18b0 : ((rdOf ByteArray.empty t273 0).toList == ([100, 111, 110, 101] : List UInt8)) = true := beq_iff_eq.mpr c18
     have c18b1 : ((rdOf ByteArray.empty t273 0).toList != ([100, 111, 110, 101] : List UInt8)) = false := bne_eq_false_iff_eq.mpr c18
     clear c18
     by_cases c19 : 1 ≤ (t273.length : Int)
     ·rw [if_pos c19] at H
      have c19b0 := eq_true c19
      have c19b1 := decide_eq_true c19
      clear c19
      obtain ⟨y292, hy292⟩ : ∃ y_ : List ByteArray, y_ = (t273.drop 1) := ⟨_, rfl⟩
      replace H : ((foghornref12_alert.f k 1 y292).bind fun bt296 => (some (bt296.1, bt296.2.1, bt296.2.2.1, bt296.2.2.2.1, bt296.2.2.2.2.1, bt296.2.2.2.2.2))) = some (r1, r2, r3, r4, r5, r6) := by first | (rw [hy292]; with_reducible exact H) | (have H2_ := (Option.bind_some _ _).symm.trans H; rw [hy292]; with_reducible exact H2_) | (have H2_ := (Option.bind_some _ _).symm.trans H; with_reducible exact H2_) | with_reducible exact H | (rw [hy292]; exact H) | exact H
      have Ny292 := aA hy292
      clear hy292
      replace H := Option.bind_eq_some_iff.mp H
      obtain ⟨⟨t296, t297, t300, t301, t302, t305⟩, A200, H⟩ := H
      replace H : (some (t296, t297, t300, t301, t302, t305)) = some (r1, r2, r3, r4, r5, r6) := H
      have A20 := aA A200
      clear A200
      simp only [Option.some.injEq, Prod.mk.injEq] at H
      obtain ⟨rfl, rfl, rfl, rfl, rfl, rfl⟩ := H
      go_enter Tryz.func11, Tryz.ntmps11
      go_wp2_with (first | ((with_reducible refine gate_dst (N := 2) rfl ?_); refine box_event ?hg (N := 2) ?hd (cs := #[.int .i64 0, .slice none 0 0, .int .i64 0, .int .i64 0, .slice none 0 0]) (t := 27) ?hr ?_; (case hd => rfl); (case hg => rfl); (case hr => first | (go_simp; done) | (go_simp; rfl)); intro gb272 hg w21 hbox hb; have n0_ := aA (below_step mB hb); have n1_ := aA (hbox); have n2_ := aA ((bZ hg mB)); have n3_ := aA ((bZ hg mB)); clear HB; have HB := n0_; have BK272 := n1_; have GW272 := n2_; have GE272 := n3_; clear n0_ n1_ n2_ n3_ hb hbox hg) | ((with_reducible refine gate_callee (f := 37) rfl ?_); refine goesL_ (some 10) rfl rfl Tryz.func37 (by kernel_rfl) rfl #[.string a0] rfl mS ?_; (with_reducible refine (foghornref12_Words.calls k a0 t273 _ A5.out).mono ?_); rintro e w22 ⟨v274, rfl, ho0, hb⟩; refine ⟨_, rfl, ?_⟩; have n0_ := aA (Kd.R_lower ho0 (below_size (mD1 GE272.out))); have n1_ := aA (bB BK272.out hb); have n2_ := aA (below_step (mD1 GE272.out) hb); clear BK272 HB; have HO275 := n0_; have BK272 := n1_; have HB := n2_; clear n0_ n1_ n2_; (try clear hb); (try clear hb2); (try clear hk); (try clear hi); (try clear ho0); obtain ⟨Ao23, co23, eo23⟩ := Kd.R_slice HO275.out; subst eo23; have p276 : 0 ≤ (0 : Int) := (by omega); have q276 : 0 < (t273.length : Int) := of_decide_eq_true (by first | (with_reducible assumption) | assumption); obtain ⟨ad276, e276, hx276_0⟩ := Kd.at_string (Kd.R_reads' HO275.out).2.2 0 p276 q276; cases e276; have qi276 : (0 < t273.length) = True := eq_true (by omega); (try rw [show ((0 : Int)).toNat = 0 from rfl] at hx276_0); (try rw [Addr.add_zero'] at hx276_0); replace p276 := eq_true p276; replace q276 := eq_true q276; have p291 : 0 ≤ (0 : Int) := (by omega); have q291 : 0 < (t273.length : Int) := of_decide_eq_true (by first | (with_reducible assumption) | assumption); obtain ⟨ad291, e291, hx291_0⟩ := Kd.at_string (Kd.R_reads' HO275.out).2.2 0 p291 q291; obtain rfl : ad276 = ad291 := (by injection e291); have qi291 : (0 < t273.length) = True := eq_true (by omega); (try rw [show ((0 : Int)).toNat = 0 from rfl] at hx291_0); (try rw [Addr.add_zero'] at hx291_0); replace p291 := eq_true p291; replace q291 := eq_true q291; have q24 : (1 : Int) ≤ ((t273.length : Int) : Int) := of_decide_eq_true (by first | (with_reducible assumption) | assumption); obtain ⟨i024, hi024, _, hsz24, _⟩ := info_parts info9; have hroom24 : t273.length ≤ co23 := (Kd.R_reads' HO275.out).2.1; have hC24 : Kd.C Kd.string _ (some ad276) t273.length t273 := (Kd.R_reads' HO275.out).2.2; have hcut24 := cut_from (P := Tryz.prog) 67 9 .i64 Tryz.underlying67 hi024 1 hsz24 (some ad276) t273.length co23 1 (by omega) q24; have hr24 := Kd.C_drop (m := (1 : Int).toNat) (c := co23) hC24 (by omega) hroom24; obtain ⟨A24, hA24⟩ : ∃ A1, A1 = (if co23 = (1 : Int).toNat then (some ad276) else ((some ad276) : Option Addr).map (·.add ((1 : Int).toNat * 1))) := ⟨_, rfl⟩; obtain ⟨c24, hc24⟩ : ∃ c1, c1 = co23 - (1 : Int).toNat := ⟨_, rfl⟩; have hy24 : y292.length = t273.length - (1 : Int).toNat := (by rw [Ny292.out, List.length_drop] <;> omega); rw [show (t273).drop (1 : Int).toNat = y292 from Ny292.out.symm] at hr24; replace hr24 : Kd.C Kd.string _ A24 y292.length y292 := (by rw [hA24]; exact hr24); rw [← hy24, ← hA24, ← hc24] at hcut24; have HR295 := aA hr24; have HC295 := aA (show y292.length ≤ c24 from by rw [hy24, hc24]; exact Nat.sub_le_sub_right hroom24 _); clear hr24 hC24 hroom24 hi024 hsz24 hc24; have KY24 := aA hy24; have KA24 := aA hA24; clear hy24 hA24; have KL24 := aA (show 1 ≤ t273.length from by omega); replace q24 := eq_true q24) | ((with_reducible refine gate_callee (f := 38) rfl ?_); refine goesL_ (some 26) rfl rfl Tryz.func38 (by kernel_rfl) rfl #[.int .i64 1, .slice A24 y292.length c24] rfl mS ?_; (with_reducible refine (foghornref12_alert.calls k 1 _ _ y292 t296 t297 t300 t301 t302 t305 _ ?side1 ?side2 A20.out).mono ?_); (case side1 => repeat (first | exact (by repeat (first | (with_reducible exact HR295.out) | (with_reducible refine Kd.C_alloc ?_ _) | (with_reducible refine Kd.C_drewN ?_ _) | (with_reducible refine Kd.C_drew ?_) | exact HR295.out)) | (with_reducible refine Kd.C_alloc ?_ _) | (with_reducible refine Kd.C_drewN ?_ _) | (with_reducible refine Kd.C_drew ?_))); (case side2 => exact HC295.out); rintro e w25 ⟨v298, v303, rfl, ho0, ho1, hb⟩; refine ⟨_, rfl, ?_⟩; have n0_ := aA (Kd.R_below (mR HO275.out) hb); have n1_ := aA (Kd.R_lower ho0 (below_size (mD1 GE272.out))); have n2_ := aA (Kd.R_lower ho1 (below_size (mD1 GE272.out))); have n3_ := aA (bB BK272.out hb); have n4_ := aA (Kd.C_below (by repeat (first | (with_reducible exact HR295.out) | (with_reducible refine Kd.C_alloc ?_ _) | (with_reducible refine Kd.C_drewN ?_ _) | (with_reducible refine Kd.C_drew ?_) | exact HR295.out)) hb); have n5_ := aA (below_step (mD1 GE272.out) hb); clear HO275 BK272 HR295 HB; have HO275 := n0_; have HO299 := n1_; have HO304 := n2_; have BK272 := n3_; have HR295 := n4_; have HB := n5_; clear n0_ n1_ n2_ n3_ n4_ n5_; (try clear hb); (try clear hb2); (try clear hk); (try clear hi); (try clear ho0); (try clear ho1); obtain ⟨hcz26_0, hcz26_1, hcz26_2, hcz26_3, hcz26_4⟩ := bC5 BK272.out; obtain ⟨hfz26_0, hfz26_1, hfz26_2, hfz26_3, hfz26_4⟩ := bF5 BK272.out; obtain ⟨Ao27, co27, eo27⟩ := Kd.R_slice HO299.out; subst eo27; obtain ⟨Ao28, co28, eo28⟩ := Kd.R_slice HO304.out; subst eo28))
      refine bodyPost_ret (results_ct rfl _ _ gb272 27 #[.int .i64 t296, .slice Ao27 t297.length co27, .int .i64 t300, .int .i64 t301, .slice Ao28 t302.length co28] (0, 0) _ rfl (by (with_reducible repeat (first | refine blk_drewN ?_ _ | refine blk_drew ?_ | refine blk_alloc ?_ _)); have h_ := BK272.out; exact pK 4 (pK 3 (pK 2 (pK 1 (pK 0 (h_)))))) Tryz.underlying27 rfl (by kernel_rfl)) rfl ?_
      exact ⟨_, _, by first | rfl | (simp [errW_none, errW_some] <;> rfl) | (simp [*, errW_none, errW_some] <;> rfl), by (with_reducible repeat (first | apply Kd.R_alloc | apply Kd.R_drewN | apply Kd.R_drew)); exact Kd.R_mono (rF 4 (rF 3 (rF 2 (rF 1 (rF 0 (Kd.R_types HO299.out BK272.out (by decide))))))) (fun _ hk => trivial), by (with_reducible repeat (first | apply Kd.R_alloc | apply Kd.R_drewN | apply Kd.R_drew)); exact Kd.R_mono (rF 4 (rF 3 (rF 2 (rF 1 (rF 0 (Kd.R_types HO304.out BK272.out (by decide))))))) (fun _ hk => trivial), by repeat (first | (with_reducible first | exact HB.out | apply below_alloc | apply pw_below_drewN | apply below_drew1 | refine below_set ?_ GE272.out) | exact HB.out)⟩
     ·rw [if_neg c19] at H
      exact absurd H (by simp)
    ·rw [if_neg c18] at H
     have c18b0 : ((rdOf ByteArray.empty t273 0).toList == ([100, 111, 110, 101] : List UInt8)) = false := beq_eq_false_iff_ne.mpr c18
     have c18b1 : ((rdOf ByteArray.empty t273 0).toList != ([100, 111, 110, 101] : List UInt8)) = true := bne_iff_ne.mpr c18
     by_cases c29 : (rdOf ByteArray.empty t273 0).toList = ([104, 117, 115, 104] : List UInt8)
     ·rw [if_pos c29] at H
      have c29b0 : ((rdOf ByteArray.empty t273 0).toList == ([104, 117, 115, 104] : List UInt8)) = true := beq_iff_eq.mpr c29
      have c29b1 : ((rdOf ByteArray.empty t273 0).toList != ([104, 117, 115, 104] : List UInt8)) = false := bne_eq_false_iff_eq.mpr c29
      clear c29
      by_cases c30 : 1 ≤ (t273.length : Int)
      ·rw [if_pos c30] at H
       have c30b0 := eq_true c30
       have c30b1 := decide_eq_true c30
       clear c30
       obtain ⟨y307, hy307⟩ : ∃ y_ : List ByteArray, y_ = (t273.drop 1) := ⟨_, rfl⟩
       replace H : ((foghornref12_hush.f k y307).bind fun bt311 => (some (bt311.1, bt311.2.1, bt311.2.2.1, bt311.2.2.2.1, bt311.2.2.2.2.1, bt311.2.2.2.2.2))) = some (r1, r2, r3, r4, r5, r6) := by first | (rw [hy307]; with_reducible exact H) | (have H2_ := (Option.bind_some _ _).symm.trans H; rw [hy307]; with_reducible exact H2_) | (have H2_ := (Option.bind_some _ _).symm.trans H; with_reducible exact H2_) | with_reducible exact H | (rw [hy307]; exact H) | exact H
       have Ny307 := aA hy307
       clear hy307
       replace H := Option.bind_eq_some_iff.mp H
       obtain ⟨⟨t311, t312, t315, t316, t317, t320⟩, A310, H⟩ := H
       replace H : (some (t311, t312, t315, t316, t317, t320)) = some (r1, r2, r3, r4, r5, r6) := H
       have A31 := aA A310
       clear A310
       simp only [Option.some.injEq, Prod.mk.injEq] at H
       obtain ⟨rfl, rfl, rfl, rfl, rfl, rfl⟩ := H
       go_enter Tryz.func11, Tryz.ntmps11
       go_wp2_with (first | ((with_reducible refine gate_dst (N := 2) rfl ?_); refine box_event ?hg (N := 2) ?hd (cs := #[.int .i64 0, .slice none 0 0, .int .i64 0, .int .i64 0, .slice none 0 0]) (t := 27) ?hr ?_; (case hd => rfl); (case hg => rfl); (case hr => first | (go_simp; done) | (go_simp; rfl)); intro gb272 hg w32 hbox hb; have n0_ := aA (below_step mB hb); have n1_ := aA (hbox); have n2_ := aA ((bZ hg mB)); have n3_ := aA ((bZ hg mB)); clear HB; have HB := n0_; have BK272 := n1_; have GW272 := n2_; have GE272 := n3_; clear n0_ n1_ n2_ n3_ hb hbox hg) | ((with_reducible refine gate_callee (f := 37) rfl ?_); refine goesL_ (some 10) rfl rfl Tryz.func37 (by kernel_rfl) rfl #[.string a0] rfl mS ?_; (with_reducible refine (foghornref12_Words.calls k a0 t273 _ A5.out).mono ?_); rintro e w33 ⟨v274, rfl, ho0, hb⟩; refine ⟨_, rfl, ?_⟩; have n0_ := aA (Kd.R_lower ho0 (below_size (mD1 GE272.out))); have n1_ := aA (bB BK272.out hb); have n2_ := aA (below_step (mD1 GE272.out) hb); clear BK272 HB; have HO275 := n0_; have BK272 := n1_; have HB := n2_; clear n0_ n1_ n2_; (try clear hb); (try clear hb2); (try clear hk); (try clear hi); (try clear ho0); obtain ⟨Ao34, co34, eo34⟩ := Kd.R_slice HO275.out; subst eo34; have p276 : 0 ≤ (0 : Int) := (by omega); have q276 : 0 < (t273.length : Int) := of_decide_eq_true (by first | (with_reducible assumption) | assumption); obtain ⟨ad276, e276, hx276_0⟩ := Kd.at_string (Kd.R_reads' HO275.out).2.2 0 p276 q276; cases e276; have qi276 : (0 < t273.length) = True := eq_true (by omega); (try rw [show ((0 : Int)).toNat = 0 from rfl] at hx276_0); (try rw [Addr.add_zero'] at hx276_0); replace p276 := eq_true p276; replace q276 := eq_true q276; have p291 : 0 ≤ (0 : Int) := (by omega); have q291 : 0 < (t273.length : Int) := of_decide_eq_true (by first | (with_reducible assumption) | assumption); obtain ⟨ad291, e291, hx291_0⟩ := Kd.at_string (Kd.R_reads' HO275.out).2.2 0 p291 q291; obtain rfl : ad276 = ad291 := (by injection e291); have qi291 : (0 < t273.length) = True := eq_true (by omega); (try rw [show ((0 : Int)).toNat = 0 from rfl] at hx291_0); (try rw [Addr.add_zero'] at hx291_0); replace p291 := eq_true p291; replace q291 := eq_true q291; have p306 : 0 ≤ (0 : Int) := (by omega); have q306 : 0 < (t273.length : Int) := of_decide_eq_true (by first | (with_reducible assumption) | assumption); obtain ⟨ad306, e306, hx306_0⟩ := Kd.at_string (Kd.R_reads' HO275.out).2.2 0 p306 q306; obtain rfl : ad276 = ad306 := (by injection e306); have qi306 : (0 < t273.length) = True := eq_true (by omega); (try rw [show ((0 : Int)).toNat = 0 from rfl] at hx306_0); (try rw [Addr.add_zero'] at hx306_0); replace p306 := eq_true p306; replace q306 := eq_true q306; have q35 : (1 : Int) ≤ ((t273.length : Int) : Int) := of_decide_eq_true (by first | (with_reducible assumption) | assumption); obtain ⟨i035, hi035, _, hsz35, _⟩ := info_parts info9; have hroom35 : t273.length ≤ co34 := (Kd.R_reads' HO275.out).2.1; have hC35 : Kd.C Kd.string _ (some ad276) t273.length t273 := (Kd.R_reads' HO275.out).2.2; have hcut35 := cut_from (P := Tryz.prog) 67 9 .i64 Tryz.underlying67 hi035 1 hsz35 (some ad276) t273.length co34 1 (by omega) q35; have hr35 := Kd.C_drop (m := (1 : Int).toNat) (c := co34) hC35 (by omega) hroom35; obtain ⟨A35, hA35⟩ : ∃ A1, A1 = (if co34 = (1 : Int).toNat then (some ad276) else ((some ad276) : Option Addr).map (·.add ((1 : Int).toNat * 1))) := ⟨_, rfl⟩; obtain ⟨c35, hc35⟩ : ∃ c1, c1 = co34 - (1 : Int).toNat := ⟨_, rfl⟩; have hy35 : y307.length = t273.length - (1 : Int).toNat := (by rw [Ny307.out, List.length_drop] <;> omega); rw [show (t273).drop (1 : Int).toNat = y307 from Ny307.out.symm] at hr35; replace hr35 : Kd.C Kd.string _ A35 y307.length y307 := (by rw [hA35]; exact hr35); rw [← hy35, ← hA35, ← hc35] at hcut35; have HR310 := aA hr35; have HC310 := aA (show y307.length ≤ c35 from by rw [hy35, hc35]; exact Nat.sub_le_sub_right hroom35 _); clear hr35 hC35 hroom35 hi035 hsz35 hc35; have KY35 := aA hy35; have KA35 := aA hA35; clear hy35 hA35; have KL35 := aA (show 1 ≤ t273.length from by omega); replace q35 := eq_true q35) | ((with_reducible refine gate_callee (f := 39) rfl ?_); refine goesL_ (some 35) rfl rfl Tryz.func39 (by kernel_rfl) rfl #[.slice A35 y307.length c35] rfl mS ?_; (with_reducible refine (foghornref12_hush.calls k _ _ y307 t311 t312 t315 t316 t317 t320 _ ?side1 ?side2 A31.out).mono ?_); (case side1 => repeat (first | exact (by repeat (first | (with_reducible exact HR310.out) | (with_reducible refine Kd.C_alloc ?_ _) | (with_reducible refine Kd.C_drewN ?_ _) | (with_reducible refine Kd.C_drew ?_) | exact HR310.out)) | (with_reducible refine Kd.C_alloc ?_ _) | (with_reducible refine Kd.C_drewN ?_ _) | (with_reducible refine Kd.C_drew ?_))); (case side2 => exact HC310.out); rintro e w36 ⟨v313, v318, rfl, ho0, ho1, hb⟩; refine ⟨_, rfl, ?_⟩; have n0_ := aA (Kd.R_below (mR HO275.out) hb); have n1_ := aA (Kd.R_lower ho0 (below_size (mD1 GE272.out))); have n2_ := aA (Kd.R_lower ho1 (below_size (mD1 GE272.out))); have n3_ := aA (bB BK272.out hb); have n4_ := aA (Kd.C_below (by repeat (first | (with_reducible exact HR310.out) | (with_reducible refine Kd.C_alloc ?_ _) | (with_reducible refine Kd.C_drewN ?_ _) | (with_reducible refine Kd.C_drew ?_) | exact HR310.out)) hb); have n5_ := aA (below_step (mD1 GE272.out) hb); clear HO275 BK272 HR310 HB; have HO275 := n0_; have HO314 := n1_; have HO319 := n2_; have BK272 := n3_; have HR310 := n4_; have HB := n5_; clear n0_ n1_ n2_ n3_ n4_ n5_; (try clear hb); (try clear hb2); (try clear hk); (try clear hi); (try clear ho0); (try clear ho1); obtain ⟨hcz37_0, hcz37_1, hcz37_2, hcz37_3, hcz37_4⟩ := bC5 BK272.out; obtain ⟨hfz37_0, hfz37_1, hfz37_2, hfz37_3, hfz37_4⟩ := bF5 BK272.out; obtain ⟨Ao38, co38, eo38⟩ := Kd.R_slice HO314.out; subst eo38; obtain ⟨Ao39, co39, eo39⟩ := Kd.R_slice HO319.out; subst eo39))
       refine bodyPost_ret (results_ct rfl _ _ gb272 27 #[.int .i64 t311, .slice Ao38 t312.length co38, .int .i64 t315, .int .i64 t316, .slice Ao39 t317.length co39] (0, 0) _ rfl (by (with_reducible repeat (first | refine blk_drewN ?_ _ | refine blk_drew ?_ | refine blk_alloc ?_ _)); have h_ := BK272.out; exact pK 4 (pK 3 (pK 2 (pK 1 (pK 0 (h_)))))) Tryz.underlying27 rfl (by kernel_rfl)) rfl ?_
       exact ⟨_, _, by first | rfl | (simp [errW_none, errW_some] <;> rfl) | (simp [*, errW_none, errW_some] <;> rfl), by (with_reducible repeat (first | apply Kd.R_alloc | apply Kd.R_drewN | apply Kd.R_drew)); exact Kd.R_mono (rF 4 (rF 3 (rF 2 (rF 1 (rF 0 (Kd.R_types HO314.out BK272.out (by decide))))))) (fun _ hk => trivial), by (with_reducible repeat (first | apply Kd.R_alloc | apply Kd.R_drewN | apply Kd.R_drew)); exact Kd.R_mono (rF 4 (rF 3 (rF 2 (rF 1 (rF 0 (Kd.R_types HO319.out BK272.out (by decide))))))) (fun _ hk => trivial), by repeat (first | (with_reducible first | exact HB.out | apply below_alloc | apply pw_below_drewN | apply below_drew1 | refine below_set ?_ GE272.out) | exact HB.out)⟩
      ·rw [if_neg c30] at H
       exact absurd H (by simp)
     ·rw [if_neg c29] at H
      have c29b0 : ((rdOf ByteArray.empty t273 0).toList == ([104, 117, 115, 104] : List UInt8)) = false := beq_eq_false_iff_ne.mpr c29
      have c29b1 : ((rdOf ByteArray.empty t273 0).toList != ([104, 117, 115, 104] : List UInt8)) = true := bne_iff_ne.mpr c29
      simp only [Option.some.injEq, Prod.mk.injEq] at H
      obtain ⟨rfl, rfl, rfl, rfl, rfl, rfl⟩ := H
      go_enter Tryz.func11, Tryz.ntmps11
      go_wp2_with (first | ((with_reducible refine gate_dst (N := 2) rfl ?_); refine box_event ?hg (N := 2) ?hd (cs := #[.int .i64 0, .slice none 0 0, .int .i64 0, .int .i64 0, .slice none 0 0]) (t := 27) ?hr ?_; (case hd => rfl); (case hg => rfl); (case hr => first | (go_simp; done) | (go_simp; rfl)); intro gb272 hg w40 hbox hb; have n0_ := aA (below_step mB hb); have n1_ := aA (hbox); have n2_ := aA ((bZ hg mB)); have n3_ := aA ((bZ hg mB)); clear HB; have HB := n0_; have BK272 := n1_; have GW272 := n2_; have GE272 := n3_; clear n0_ n1_ n2_ n3_ hb hbox hg) | ((with_reducible refine gate_callee (f := 37) rfl ?_); refine goesL_ (some 10) rfl rfl Tryz.func37 (by kernel_rfl) rfl #[.string a0] rfl mS ?_; (with_reducible refine (foghornref12_Words.calls k a0 t273 _ A5.out).mono ?_); rintro e w41 ⟨v274, rfl, ho0, hb⟩; refine ⟨_, rfl, ?_⟩; have n0_ := aA (Kd.R_lower ho0 (below_size (mD1 GE272.out))); have n1_ := aA (bB BK272.out hb); have n2_ := aA (below_step (mD1 GE272.out) hb); clear BK272 HB; have HO275 := n0_; have BK272 := n1_; have HB := n2_; clear n0_ n1_ n2_; (try clear hb); (try clear hb2); (try clear hk); (try clear hi); (try clear ho0); obtain ⟨Ao42, co42, eo42⟩ := Kd.R_slice HO275.out; subst eo42; have p276 : 0 ≤ (0 : Int) := (by omega); have q276 : 0 < (t273.length : Int) := of_decide_eq_true (by first | (with_reducible assumption) | assumption); obtain ⟨ad276, e276, hx276_0⟩ := Kd.at_string (Kd.R_reads' HO275.out).2.2 0 p276 q276; cases e276; have qi276 : (0 < t273.length) = True := eq_true (by omega); (try rw [show ((0 : Int)).toNat = 0 from rfl] at hx276_0); (try rw [Addr.add_zero'] at hx276_0); replace p276 := eq_true p276; replace q276 := eq_true q276; have p291 : 0 ≤ (0 : Int) := (by omega); have q291 : 0 < (t273.length : Int) := of_decide_eq_true (by first | (with_reducible assumption) | assumption); obtain ⟨ad291, e291, hx291_0⟩ := Kd.at_string (Kd.R_reads' HO275.out).2.2 0 p291 q291; obtain rfl : ad276 = ad291 := (by injection e291); have qi291 : (0 < t273.length) = True := eq_true (by omega); (try rw [show ((0 : Int)).toNat = 0 from rfl] at hx291_0); (try rw [Addr.add_zero'] at hx291_0); replace p291 := eq_true p291; replace q291 := eq_true q291; have p306 : 0 ≤ (0 : Int) := (by omega); have q306 : 0 < (t273.length : Int) := of_decide_eq_true (by first | (with_reducible assumption) | assumption); obtain ⟨ad306, e306, hx306_0⟩ := Kd.at_string (Kd.R_reads' HO275.out).2.2 0 p306 q306; obtain rfl : ad276 = ad306 := (by injection e306); have qi306 : (0 < t273.length) = True := eq_true (by omega); (try rw [show ((0 : Int)).toNat = 0 from rfl] at hx306_0); (try rw [Addr.add_zero'] at hx306_0); replace p306 := eq_true p306; replace q306 := eq_true q306; obtain ⟨hcz43_0, hcz43_1, hcz43_2, hcz43_3, hcz43_4⟩ := bC5 BK272.out; obtain ⟨hfz43_0, hfz43_1, hfz43_2, hfz43_3, hfz43_4⟩ := bF5 BK272.out))
      refine bodyPost_ret (results_ct rfl _ _ gb272 27 #[.int .i64 0, .slice none 0 0, .int .i64 0, .int .i64 0, .slice none 0 0] (0, 0) _ rfl (by (with_reducible repeat (first | refine blk_drewN ?_ _ | refine blk_drew ?_ | refine blk_alloc ?_ _)); have h_ := BK272.out; exact pK 4 (pK 3 (pK 2 (pK 1 (pK 0 (h_)))))) Tryz.underlying27 rfl (by kernel_rfl)) rfl ?_
      exact ⟨_, _, by first | rfl | (simp [errW_none, errW_some] <;> rfl) | (simp [*, errW_none, errW_some] <;> rfl), by first | exact Kd.R_nil _ _ _ _ _ | exact Kd.N_nil _ _ _ _ _ | exact Kd.V_nil _ _ _ _ _ | exact Kd.Q_nil _ _ _ _ _ | exact Kd.S_nil _ _ _ _ _, by first | exact Kd.R_nil _ _ _ _ _ | exact Kd.N_nil _ _ _ _ _ | exact Kd.V_nil _ _ _ _ _ | exact Kd.Q_nil _ _ _ _ _ | exact Kd.S_nil _ _ _ _ _, by repeat (first | (with_reducible first | exact HB.out | apply below_alloc | apply pw_below_drewN | apply below_drew1 | refine below_set ?_ GE272.out) | exact HB.out)⟩
  ·rw [if_neg c6] at H
   exact absurd H (by simp)
end Go.Proofs.YtjfknmlchdifjaaGreatDoorQ.P
namespace Go.Proofs.YtjfknmlchdifjaaGreatDoor
open Go.RowKit
theorem sort_done {xs : List Lab} (h : sortE xs = 0) : labsB (sortL xs) = true ∧ (sortL xs).Perm xs ∧ eachB xs = true := by
  unfold sortE at h
  unfold sortL
  cases he : eachB xs
  · rw [he] at h; cases h
  · rw [he, if_pos rfl] at h
    rw [if_pos rfl]
    cases hs : sortO [] xs with
    | none => rw [hs] at h; cases h
    | some r =>
      obtain ⟨h1, h2⟩ := sortO_some xs [] r List.Pairwise.nil hs
      rw [List.nil_append] at h2
      refine ⟨?_, h2, rfl⟩
      unfold labsB
      show (risesB r && eachB r) = true
      rw [eachB_perm h2, he, rises_pair.2 h1]
      rfl
end Go.Proofs.YtjfknmlchdifjaaGreatDoor
namespace Go.Proofs.YtjfknmlchdifjaaGreatDoor
open Go.RowKit
theorem alert_cases (k : Int) (hk : k = 0 ∨ k = 1) (ws : List (List UInt8)) : (∃ m, alertP k ws = (m, 0) ∧ m.okB = true) ∨ ∃ e, e ≠ 0 ∧ alertP k ws = (Msg.zero, e) := by
  unfold alertP
  cases h : readAll labP ws with
  | none => exact .inr ⟨13, by decide, rfl⟩
  | some l =>
    by_cases hs : sortE l = 0
    · refine .inl ⟨⟨k, sortL l, 0, 0, []⟩, by simp only; rw [if_pos hs], ?_⟩
      have := (sort_done hs).1
      unfold Msg.okB
      simp only
      rw [if_neg (by omega), this]
      rcases hk with rfl | rfl <;> rfl
    · exact .inr ⟨sortE l, hs, by simp only; rw [if_neg hs]⟩
theorem hush_cases (ws : List (List UInt8)) : (∃ m, hushP ws = (m, 0) ∧ m.okB = true) ∨ ∃ e, e ≠ 0 ∧ hushP ws = (Msg.zero, e) := by
  match ws with
  | [] => exact .inr ⟨12, by decide, rfl⟩
  | [_] => exact .inr ⟨12, by decide, rfl⟩
  | [_, _] => exact .inr ⟨12, by decide, rfl⟩
  | f :: t :: w :: r =>
    simp only [hushP]
    by_cases hn : (numB f && numB t) = true
    · rw [if_pos hn]
      rw [Bool.and_eq_true] at hn
      cases h : readAll askP (w :: r) with
      | none => exact .inr ⟨13, by decide, rfl⟩
      | some ms =>
        simp only
        by_cases h4 : 4 < ms.length
        · exact .inr ⟨2, by decide, by rw [if_pos h4]⟩
        · rw [if_neg h4]
          by_cases ht : (numV t : Int) ≤ (numV f : Int)
          · exact .inr ⟨3, by decide, by rw [if_pos ht]⟩
          · rw [if_neg ht]
            refine .inl ⟨_, rfl, ?_⟩
            have hl := readAll_len h
            have h2 := hn.2
            simp only [numB, Bool.and_eq_true, decide_eq_true_eq] at h2
            unfold Msg.okB
            simp only
            rw [if_pos trivial, hushB_of (by omega) (by omega) (by omega) (by rw [hl]; simp) (by omega) (readAll_ok (p := fun m => matB m = true) (fun l x hx => (askW_askP hx).2) h)]
            rfl
    · rw [if_neg hn]
      exact .inr ⟨13, by decide, rfl⟩
theorem parse_cases (l : List UInt8) : (∃ m, parseP l = (m, 0) ∧ m.okB = true) ∨ ∃ e, e ≠ 0 ∧ parseP l = (Msg.zero, e) := by
  unfold parseP
  by_cases h : 200 < l.length
  · exact .inr ⟨2, by decide, by rw [if_pos h]⟩
  · rw [if_neg h]
    obtain ⟨w, r, e⟩ := splitL_form 32 l
    rw [e]
    simp only [parseW]
    by_cases h1 : w = fireT
    · rw [if_pos h1]; exact alert_cases 0 (.inl rfl) r
    · rw [if_neg h1]
      by_cases h2 : w = doneT
      · rw [if_pos h2]; exact alert_cases 1 (.inr rfl) r
      · rw [if_neg h2]
        by_cases h3 : w = hushT
        · rw [if_pos h3]; exact hush_cases r
        · rw [if_neg h3]; exact .inr ⟨10, by decide, rfl⟩
end Go.Proofs.YtjfknmlchdifjaaGreatDoor
namespace Go.Proofs.YtjfknmlchdifjaaGreatDoor
open Go.RowKit Go.Proofs.YtjfknmlchdifjaaGreatDoorW.PrintWords Go.Proofs.YtjfknmlchdifjaaGreatDoorW.PrintMore
theorem w64 {x : Int} (h0 : -9223372036854775808 ≤ x) (h1 : x ≤ 9223372036854775807) : wrap64 x = x := by unfold wrap64; omega
theorem w64s {i : Nat} (h : i < 9223372036854775807) : wrap64 ((i : Int) + 1) = ((i + 1 : Nat) : Int) := by rw [w64 (by omega) (by omega)]; omega
theorem getD_cast {α : Type} {z : α} {xs : List α} {i : Nat} (h : i < xs.length) : xs.getD (i : Int).toNat z = xs[i] := by
  rw [List.getD_eq_getElem?_getD, Int.toNat_natCast, List.getElem?_eq_getElem h]
  rfl
theorem drop_cons {α : Type} {xs : List α} {i : Nat} (h : i < xs.length) : xs.drop i = xs[i] :: xs.drop (i + 1) := List.drop_eq_getElem_cons h
theorem drop_end {α : Type} {xs : List α} {i : Nat} (h : xs.length ≤ i) : xs.drop i = [] := List.drop_eq_nil_of_le h
theorem mn_eq (a b : Int) : mn a b = min a b := by unfold mn; omega
def cutB (n : Nat) (x : ByteArray) : ByteArray := x.extract 0 n
theorem cutB_size (n : Nat) (x : ByteArray) : (cutB n x).size = min n x.size := by
  unfold cutB
  rw [ByteArray.size_extract]
  omega
theorem cutB_mn (n : Nat) (m : Int) (x : ByteArray) (hm : m = n) : x.extract 0 (mn (x.size : Int) m).toNat = cutB n x := by
  subst hm
  unfold cutB
  rw [mn_eq]
  apply ByteArray.ext
  rw [ByteArray.data_extract, ByteArray.data_extract]
  rcases Nat.le_total x.size n with h | h
  · rw [show (min (x.size : Int) n).toNat = x.size by omega]
    rw [Array.extract_eq_self_of_le (show x.data.size ≤ x.size from Nat.le_refl _), Array.extract_eq_self_of_le (show x.data.size ≤ n from h)]
  · rw [show (min (x.size : Int) n).toNat = n by omega]
end Go.Proofs.YtjfknmlchdifjaaGreatDoor
namespace Go.Proofs.YtjfknmlchdifjaaGreatDoorQ.P
open Go.RowKit Go.Proofs.YtjfknmlchdifjaaGreatDoorW.PrintWords Go.Proofs.YtjfknmlchdifjaaGreatDoorW.PrintLast Go.Proofs.YtjfknmlchdifjaaGreatDoorW.PrintMore Go.Proofs.YtjfknmlchdifjaaGreatDoor
theorem rdL {xs : List S52} {i : Nat} (h : i < xs.length) : rd_T52 xs (i : Int) = xs[i] := getD_cast h
def sortR : Option (List Lab) → List S52 × Int
  | some r => (r.map ofLab, 0)
  | none => ([], 11)
theorem sort10_l (d : Nat) : ∀ (xs : List S52) (k i : Nat) (out : List S52), i + d = xs.length → out.length ≤ i → i + d ≤ 3 → 8 * d + 1 ≤ k →
    foghornref10_Sort.l0 k out xs (xs.length : Int) i = some (sortR (sortO (out.map toLab) ((xs.drop i).map toLab))) := by
  induction d with
  | zero =>
    intro xs k i out h ho h3 hk
    obtain ⟨k, rfl⟩ : ∃ m, k = m + 1 := ⟨k - 1, by omega⟩
    simp only [foghornref10_Sort.l0]
    rw [if_neg (by omega), drop_end (by omega)]
    simp [sortO, sortR, Function.comp_def, of_to_lab]
  | succ d ih =>
    intro xs k i out h ho h3 hk
    obtain ⟨k, rfl⟩ : ∃ m, k = m + 1 := ⟨k - 1, by omega⟩
    have hi : i < xs.length := by omega
    simp only [foghornref10_Sort.l0]
    rw [if_pos (by omega), if_pos (by omega), if_pos (by omega), rdL hi, drop_cons hi, List.map_cons]
    obtain ⟨x, hx⟩ : ∃ x, x = xs[i] := ⟨_, rfl⟩
    rw [← hx]
    have inner : ∀ (e : Nat) (k j : Nat) (acc : List S52) (b : Bool), j + e = out.length → acc.length ≤ j + b.toNat → e + 8 * d + 2 ≤ k →
        (b = true → (acc.map toLab) ++ ((out.drop j).map toLab) = insL (toLab x) (out.map toLab)) →
        (b = false → (acc.map toLab) ++ insL (toLab x) ((out.drop j).map toLab) = insL (toLab x) (out.map toLab)) →
        foghornref10_Sort.l1 k acc b xs (xs.length : Int) i out (out.length : Int) j x.f0 x.f1 = if ((out.drop j).map toLab).any (fun y => (toLab x).name.toList == y.name.toList) then some ([], 11) else some (sortR (sortO (insL (toLab x) (out.map toLab)) ((xs.drop (i + 1)).map toLab))) := by
      intro e
      induction e with
      | zero =>
        intro k j acc b hj ha hk h1 h2
        obtain ⟨k, rfl⟩ : ∃ m, k = m + 1 := ⟨k - 1, by omega⟩
        simp only [foghornref10_Sort.l1]
        rw [if_neg (by omega), drop_end (by omega)]
        rw [drop_end (by omega)] at h1 h2
        simp only [List.map_nil, List.any_nil, Bool.false_eq_true, if_false]
        cases b with
        | true =>
          rw [Bool.toNat_true] at ha
          have h1' := h1 rfl
          simp only [List.map_nil, List.append_nil] at h1'
          rw [if_pos rfl, w64s (by omega), ih xs k (i + 1) acc (by omega) (by omega) (by omega) (by omega), h1']
        | false =>
          rw [Bool.toNat_false] at ha
          have h2' := h2 rfl
          simp only [List.map_nil, insL] at h2'
          rw [if_neg (by simp), if_pos (by omega), w64s (by omega), ih xs k (i + 1) _ (by omega) (by simp; omega) (by omega) (by omega)]
          rw [List.map_append, ← h2']
          rfl
      | succ e ihe =>
        intro k j acc b hj ha hk h1 h2
        obtain ⟨k, rfl⟩ : ∃ m, k = m + 1 := ⟨k - 1, by omega⟩
        have hjl : j < out.length := by omega
        simp only [foghornref10_Sort.l1]
        rw [if_pos (by omega), if_pos (by omega), if_pos (by omega), rdL hjl]
        rw [drop_cons hjl] at h1 h2 ⊢
        obtain ⟨y, hy⟩ : ∃ y, y = out[j] := ⟨_, rfl⟩
        rw [← hy] at h1 h2 ⊢
        rw [List.map_cons] at h1 h2 ⊢
        rw [List.any_cons]
        by_cases hxy : x.f0.toList = y.f0.toList
        · rw [if_pos hxy]
          have : ((toLab x).name.toList == (toLab y).name.toList) = true := by simpa [toLab] using hxy
          rw [this]
          simp
        · rw [if_neg hxy]
          have hne : ((toLab x).name.toList == (toLab y).name.toList) = false := by simpa [toLab] using hxy
          rw [hne, Bool.false_or]
          cases b with
          | true =>
            rw [Bool.toNat_true] at ha
            rw [if_pos rfl, if_pos (by omega), w64s (by omega), ihe k (j + 1) _ true (by omega) (by simp; omega) (by omega) (fun _ => by rw [← h1 rfl]; simp [toLab]) (fun h => by cases h)]
          | false =>
            rw [Bool.toNat_false] at ha
            rw [if_neg (by simp)]
            have h2' := h2 rfl
            simp only [insL] at h2'
            by_cases hlt : Op.bytesLess x.f0.toList y.f0.toList = true
            · rw [if_pos hlt, if_pos (by omega), Option.bind_some, if_pos (by simp; omega), w64s (by omega), ihe k (j + 1) _ true (by omega) (by simp; omega) (by omega) (fun _ => by rw [if_pos (show ltS (toLab x).name (toLab y).name = true from hlt)] at h2'; rw [← h2']; simp [toLab]) (fun h => by cases h)]
            · rw [if_neg hlt, if_pos (by omega), w64s (by omega), ihe k (j + 1) _ false (by omega) (by simp; omega) (by omega) (fun h => by cases h) (fun _ => by rw [if_neg (show ¬ ltS (toLab x).name (toLab y).name = true from hlt)] at h2'; rw [← h2']; simp [toLab])]
    rw [show (0 : Int) = ((0 : Nat) : Int) from rfl, inner out.length k 0 [] false (by omega) (by simp) (by omega) (fun h => by cases h) (fun _ => by simp)]
    rw [List.drop_zero]
    simp only [sortO]
    split <;> rfl
theorem each10_len {xs : List S52} (h : eachB (xs.map toLab) = true) : xs.length ≤ 3 := by
  unfold eachB at h
  simp only [Bool.and_eq_true, decide_eq_true_eq, List.length_map] at h
  omega
theorem sort10_f (xs : List S52) (k : Nat) (hk : 30 ≤ k) (ho : labsOkB xs = true) : foghornref10_Sort.f k xs = some ((sortL (xs.map toLab)).map ofLab, sortE (xs.map toLab)) := by
  unfold foghornref10_Sort.f foghornref10_each.f
  rw [if_pos ho, Option.bind_some]
  unfold sortL sortE
  cases he : eachB (xs.map toLab)
  · rfl
  · have hl := each10_len he
    rw [if_pos rfl, if_pos rfl, if_pos rfl, show (0 : Int) = ((0 : Nat) : Int) from rfl, sort10_l xs.length xs k 0 [] (by omega) (by simp) (by omega) (by omega), List.drop_zero]
    simp only [List.map_nil]
    cases sortO [] (xs.map toLab) <;> rfl
end Go.Proofs.YtjfknmlchdifjaaGreatDoorQ.P
namespace Go.Proofs.YtjfknmlchdifjaaGreatDoorQ.P
open Go.RowKit Go.Proofs.YtjfknmlchdifjaaGreatDoorW.PrintWords Go.Proofs.YtjfknmlchdifjaaGreatDoorW.PrintLast Go.Proofs.YtjfknmlchdifjaaGreatDoorW.PrintMore Go.Proofs.YtjfknmlchdifjaaGreatDoor
theorem bt_list {s : ByteArray} {i : Nat} (h : i < s.data.toList.length) : Go.Proofs.YtjfknmlchdifjaaGreatDoorW.PrintWords.bt s (i : Int) = ((s.data.toList[i]).toNat : Int) := by
  rw [len_data] at h
  unfold Go.Proofs.YtjfknmlchdifjaaGreatDoorW.PrintWords.bt
  rw [dif_pos (by rw [Int.toNat_natCast]; exact h)]
  rfl
theorem ex_mid (s : ByteArray) (i j : Nat) : s.extract i j = tx ((s.data.toList.drop i).take (j - i)) := tx_inj (by rw [Lib.extract_data]; rfl)
theorem ex_take (s : ByteArray) (i : Nat) : s.extract 0 i = tx (s.data.toList.take i) := by rw [ex_mid, List.drop_zero]; rfl
theorem ex_drop (s : ByteArray) (i : Nat) : s.extract i s.size = tx (s.data.toList.drop i) := by
  rw [ex_mid, List.take_of_length_le]
  rw [List.length_drop, len_data]
  exact Nat.le_refl _
theorem tx_toList (l : List UInt8) : (tx l).toList = l := by rw [ByteArray.toList_eq]; rfl
theorem toList_data (s : ByteArray) : s.toList = s.data.toList := ByteArray.toList_eq s
theorem rdB {xs : List ByteArray} {i : Nat} (h : i < xs.length) : rdOf ByteArray.empty xs (i : Int) = xs[i] := getD_cast h
theorem n0 : (0 : Int) = ((0 : Nat) : Int) := rfl
theorem all_no {p : UInt8 → Bool} {l : List UInt8} {i : Nat} (h : i < l.length) (hp : p l[i] = false) : l.all p = false := List.all_eq_false.2 ⟨_, List.getElem_mem h, by rw [hp]; simp⟩
theorem all_yes {p : UInt8 → Bool} {l : List UInt8} {i : Nat} (h : i < l.length) (ha : (l.take i).all p = true) (hp : p l[i] = true) : (l.take (i + 1)).all p = true := by
  rw [List.take_succ_eq_append_getElem h, List.all_append, ha, List.all_cons, hp]
  rfl
theorem words_l (s : ByteArray) (hs : s.size ≤ 100000) (d : Nat) : ∀ (k i fr : Nat) (acc : List ByteArray) (u : List UInt8), i + d = s.data.toList.length → d < k → acc.length ≤ i → fr + u.length = i → s.data.toList.drop fr = u ++ s.data.toList.drop i → (32 : UInt8) ∉ u →
    foghornref12_Words.l0 k s acc (fr : Int) (i : Int) = some (acc ++ (splitL 32 (s.data.toList.drop fr)).map tx) := by
  have hl := len_data s
  induction d with
  | zero =>
    intro k i fr acc u hi hk ha hf hu hn
    obtain ⟨k, rfl⟩ : ∃ q, k = q + 1 := ⟨k - 1, by omega⟩
    have hz : s.data.toList.drop i = [] := drop_end (by omega)
    rw [hz, List.append_nil] at hu
    rw [foghornref12_Words.l0, if_neg (by omega), if_pos (by omega), if_pos (by omega), if_pos (by omega), Int.toNat_natCast, ex_drop, hu, splitL_one hn]
    rfl
  | succ d ih =>
    intro k i fr acc u hi hk ha hf hu hn
    obtain ⟨k, rfl⟩ : ∃ q, k = q + 1 := ⟨k - 1, by omega⟩
    have hlt : i < s.data.toList.length := by omega
    rw [foghornref12_Words.l0, if_pos (by omega), if_pos (by omega), bt_list hlt]
    have hd := drop_cons hlt
    by_cases hc : s.data.toList[i] = 32
    · rw [if_pos (by rw [hc]; rfl), if_pos (by omega), if_pos (by omega), if_pos (by omega), if_pos (by omega), Int.toNat_natCast, Int.toNat_natCast, w64s (by omega)]
      rw [ih k (i + 1) (i + 1) _ [] (by omega) (by omega) (by simp; omega) (by simp) (by simp) (by simp)]
      have e1 : s.extract fr i = tx u := by
        rw [ex_mid, hu, ← hf, Nat.add_sub_cancel_left, List.take_left]
      rw [e1, hu, hd, hc, splitL_app _ hn]
      simp
    · rw [if_neg (by intro e; apply hc; apply UInt8.toNat_inj.1; have : (s.data.toList[i]).toNat = 32 := by omega
                     rw [this]; rfl), w64s (by omega)]
      exact ih k (i + 1) fr acc (u ++ [s.data.toList[i]]) (by omega) (by omega) (by omega) (by simp; omega) (by rw [hu, hd]; simp) (by simp; exact ⟨hn, fun e => hc e.symm⟩)
theorem words_f {s : ByteArray} (hs : s.size ≤ 100000) {k : Nat} (hk : s.size < k) : foghornref12_Words.f k s = some (wordsT 32 s) := by
  have := words_l s hs s.data.toList.length k 0 0 [] [] (by omega) (by rw [len_data]; omega) (by simp) rfl (by simp) (by simp)
  unfold foghornref12_Words.f
  rw [n0, this]
  simp [wordsT]
theorem name_l (s : ByteArray) (hs : s.size ≤ 100000) (d : Nat) : ∀ (k i : Nat), i + d = s.data.toList.length → d < k → (s.data.toList.take i).all azB = true → foghornref10_Name.l0 k s (i : Int) = some (nameB s) := by
  have hl := len_data s
  induction d with
  | zero =>
    intro k i hi hk ha
    obtain ⟨k, rfl⟩ : ∃ q, k = q + 1 := ⟨k - 1, by omega⟩
    rw [List.take_of_length_le (by omega)] at ha
    rw [foghornref10_Name.l0, if_neg (by omega)]
    unfold nameB
    rw [ha, Bool.true_and]
    split
    · rw [decide_eq_true (p := 1 ≤ s.size) (by omega), Bool.true_and]
      congr 1
      exact decide_eq_decide.2 (by omega)
    · rw [decide_eq_false (p := 1 ≤ s.size) (by omega), Bool.false_and]
  | succ d ih =>
    intro k i hi hk ha
    obtain ⟨k, rfl⟩ : ∃ q, k = q + 1 := ⟨k - 1, by omega⟩
    have hlt : i < s.data.toList.length := by omega
    rw [foghornref10_Name.l0, if_pos (by omega), if_pos (by omega), bt_list hlt]
    have bad : azB (s.data.toList[i]) = false → nameB s = false := by
      intro h
      unfold nameB
      rw [all_no hlt h]
      rfl
    split
    · rw [bad (az_no (by omega))]
    · split
      · rw [bad (az_no (by omega))]
      · rw [w64s (by omega)]
        exact ih k (i + 1) (by omega) (by omega) (all_yes hlt ha (az_yes (by omega)))
theorem name_f {s : ByteArray} (hs : s.size ≤ 100000) {k : Nat} (hk : s.size < k) : foghornref10_Name.f k s = some (nameB s) :=
  name_l s hs s.data.toList.length k 0 (by omega) (by rw [len_data]; omega) (by simp)
theorem value_l (s : ByteArray) (hs : s.size ≤ 100000) (d : Nat) : ∀ (k i : Nat), i + d = s.data.toList.length → d < k → (s.data.toList.take i).all avB = true → foghornref10_Value.l0 k s (i : Int) = some (valB s) := by
  have hl := len_data s
  induction d with
  | zero =>
    intro k i hi hk ha
    obtain ⟨k, rfl⟩ : ∃ q, k = q + 1 := ⟨k - 1, by omega⟩
    rw [List.take_of_length_le (by omega)] at ha
    rw [foghornref10_Value.l0, if_neg (by omega)]
    unfold valB
    rw [ha, Bool.true_and]
    congr 1
    exact decide_eq_decide.2 (by omega)
  | succ d ih =>
    intro k i hi hk ha
    obtain ⟨k, rfl⟩ : ∃ q, k = q + 1 := ⟨k - 1, by omega⟩
    have hlt : i < s.data.toList.length := by omega
    rw [foghornref10_Value.l0, if_pos (by omega), if_pos (by omega), bt_list hlt]
    have bad : avB (s.data.toList[i]) = false → valB s = false := by
      intro h
      unfold valB
      rw [all_no hlt h]
      rfl
    have good : avB (s.data.toList[i]) = true → foghornref10_Value.l0 k s (wrap64 ((i : Int) + 1)) = some (valB s) := by
      intro h
      rw [w64s (by omega)]
      exact ih k (i + 1) (by omega) (by omega) (all_yes hlt ha h)
    repeat' split
    all_goals first
      | exact good (av_yes (by omega))
      | (rw [bad (av_no (by omega))])
theorem value_f {s : ByteArray} (hs : s.size ≤ 100000) {k : Nat} (hk : s.size < k) : foghornref10_Value.f k s = some (valB s) :=
  value_l s hs s.data.toList.length k 0 (by omega) (by rw [len_data]; omega) (by simp)
def labR : Option (List UInt8 × UInt8 × List UInt8) → ByteArray × ByteArray × Bool
  | none => (⟨#[]⟩, ⟨#[]⟩, false)
  | some r => (tx r.1, tx r.2.2, nameB (tx r.1) && valB (tx r.2.2))
theorem label_l (s : ByteArray) (hs : s.size ≤ 100000) (d : Nat) : ∀ (k i : Nat), i + d = s.data.toList.length → d + s.size < k → (∀ c ∈ s.data.toList.take i, eqB c = false) → foghornref12_label.l0 k s (i : Int) = some (labR (cutP eqB s.data.toList)) := by
  have hl := len_data s
  induction d with
  | zero =>
    intro k i hi hk ha
    obtain ⟨k, rfl⟩ : ∃ q, k = q + 1 := ⟨k - 1, by omega⟩
    rw [List.take_of_length_le (by omega)] at ha
    rw [foghornref12_label.l0, if_neg (by omega), cutP_none ha]
    rfl
  | succ d ih =>
    intro k i hi hk ha
    obtain ⟨k, rfl⟩ : ∃ q, k = q + 1 := ⟨k - 1, by omega⟩
    have hlt : i < s.data.toList.length := by omega
    rw [foghornref12_label.l0, if_pos (by omega), if_pos (by omega), bt_list hlt]
    by_cases hc : s.data.toList[i] = 61
    · rw [if_pos (by rw [hc]; rfl), if_pos (by omega), w64s (by omega), if_pos (by omega), if_pos (by omega), Int.toNat_natCast, Int.toNat_natCast, ex_take, ex_drop]
      have e : cutP eqB s.data.toList = some (s.data.toList.take i, 61, s.data.toList.drop (i + 1)) := by
        conv => lhs; rw [← List.take_append_drop i s.data.toList, drop_cons hlt, hc]
        exact cutP_app (by decide) _ ha
      rw [e, name_f (by rw [tx_size, List.length_take]; omega) (by rw [tx_size, List.length_take]; omega), Option.bind_some]
      unfold labR
      simp only
      cases nameB (tx (List.take i s.data.toList))
      · rfl
      · rw [if_pos rfl, value_f (by rw [tx_size, List.length_drop]; omega) (by rw [tx_size, List.length_drop]; omega)]
        rfl
    · rw [if_neg (by intro e; apply hc; apply UInt8.toNat_inj.1; have : (s.data.toList[i]).toNat = 61 := by omega
                     rw [this]; rfl), w64s (by omega)]
      refine ih k (i + 1) (by omega) (by omega) ?_
      intro c hcm
      rw [List.take_succ_eq_append_getElem hlt, List.mem_append, List.mem_singleton] at hcm
      rcases hcm with hcm | rfl
      · exact ha c hcm
      · simpa [eqB] using hc
theorem label_f {s : ByteArray} (hs : s.size ≤ 100000) {k : Nat} (hk : 2 * s.size < k) : foghornref12_label.f k s = some (labR (cutP eqB s.data.toList)) :=
  label_l s hs s.data.toList.length k 0 (by omega) (by rw [len_data]; omega) (by simp)
def askR : Option (List UInt8 × UInt8 × List UInt8) → Int × ByteArray × ByteArray × Bool
  | none => (0, ⟨#[]⟩, ⟨#[]⟩, false)
  | some r => (kindOf r.2.1, tx r.1, tx r.2.2, matB (askM r))
theorem matOkB_of {k : Int} {a b : ByteArray} (h1 : a.size ≤ 1000000) (h2 : b.size ≤ 1000000) : matOkB ⟨k, a, b⟩ = true := by
  unfold matOkB maxLen
  simp
  omega
theorem sign_f (j : Nat) (h : j < 4) : foghornref12_sign.f (j : Int) = some (tx [signs.getD j 0]) := by
  have : j = 0 ∨ j = 1 ∨ j = 2 ∨ j = 3 := by omega
  rcases this with rfl | rfl | rfl | rfl
  all_goals
    unfold foghornref12_sign.f
    rw [w64s (by omega), if_pos (by omega), if_pos (by omega), if_pos (by omega), Int.toNat_natCast, Int.toNat_natCast, ex_mid]
    rfl
theorem ask_l1 (s : ByteArray) (hs : s.size ≤ 100000) (i : Nat) (hlt : i < s.data.toList.length) (e : Nat) : ∀ (k j : Nat), j + e = 4 → e < k → (∀ t, t < j → s.data.toList[i] ≠ signs.getD t 0) →
    foghornref12_Asked.l1 k s (i : Int) (j : Int) = if signB (s.data.toList[i]) = true then some (kindOf (s.data.toList[i]), tx (s.data.toList.take i), tx (s.data.toList.drop (i + 1)), matB (askM (s.data.toList.take i, s.data.toList[i], s.data.toList.drop (i + 1)))) else foghornref12_Asked.l0 (k - e - 1) s ((i + 1 : Nat) : Int) := by
  have hl := len_data s
  generalize hc : s.data.toList[i] = c
  induction e with
  | zero =>
    intro k j hj hk ha
    obtain ⟨k, rfl⟩ : ∃ q, k = q + 1 := ⟨k - 1, by omega⟩
    have hn : signB c = false := by
      rw [← Bool.not_eq_true]
      intro h
      simp only [signB, signs, List.contains_cons, List.contains_nil, Bool.or_false, Bool.or_eq_true, beq_iff_eq] at h
      have h0 := ha 0 (by omega)
      have h1 := ha 1 (by omega)
      have h2 := ha 2 (by omega)
      have h3 := ha 3 (by omega)
      simp [signs] at h0 h1 h2 h3
      rcases h with h | h | h | h
      · exact h0 h
      · exact h1 h
      · exact h2 h
      · exact h3 h
    rw [hn, foghornref12_Asked.l1, if_neg (by omega), w64s (by omega)]
    rfl
  | succ e ih =>
    intro k j hj hk ha
    obtain ⟨k, rfl⟩ : ∃ q, k = q + 1 := ⟨k - 1, by omega⟩
    rw [foghornref12_Asked.l1, if_pos (by omega), if_pos (by omega), w64s (by omega), if_pos (by omega), if_pos (by omega), sign_f j (by omega), Option.bind_some, Int.toNat_natCast, Int.toNat_natCast, ex_mid, drop_cons hlt, hc, Nat.add_sub_cancel_left]
    simp only [List.take_succ_cons, List.take_zero, tx_toList]
    by_cases hh : c = signs.getD j 0
    · have hs' : signB c = true := by
        have : j = 0 ∨ j = 1 ∨ j = 2 ∨ j = 3 := by omega
        rcases this with rfl | rfl | rfl | rfl <;> (subst hh; decide)
      have hk' : kindOf c = (j : Int) := by
        have : j = 0 ∨ j = 1 ∨ j = 2 ∨ j = 3 := by omega
        rcases this with rfl | rfl | rfl | rfl <;> (subst hh; decide)
      rw [if_pos (by rw [hh]), if_pos (by omega), if_pos (by omega), ex_take, ex_drop, hs', if_pos rfl, hk']
      unfold foghornref10_Matcher.f
      rw [if_pos (matOkB_of (by rw [tx_size, List.length_take]; omega) (by rw [tx_size, List.length_drop]; omega))]
      simp only [Option.bind_some, askM, hk']
    · have hg : signs[j]'(by show j < 4; omega) = signs.getD j 0 := by
        have : j = 0 ∨ j = 1 ∨ j = 2 ∨ j = 3 := by omega
        rcases this with rfl | rfl | rfl | rfl <;> rfl
      rw [if_neg (by intro h; injection h with h; exact hh h), w64s (by omega), ih k (j + 1) (by omega) (by omega) (fun t ht => by
        rcases Nat.lt_succ_iff_lt_or_eq.1 ht with h | rfl
        · exact ha t h
        · exact hh)]
      rw [show k + 1 - (e + 1) - 1 = k - e - 1 by omega]
theorem ask_l0 (s : ByteArray) (hs : s.size ≤ 100000) (d : Nat) : ∀ (k i : Nat), i + d = s.data.toList.length → 6 * d < k → (∀ c ∈ s.data.toList.take i, signB c = false) → foghornref12_Asked.l0 k s (i : Int) = some (askR (cutP signB s.data.toList)) := by
  have hl := len_data s
  induction d with
  | zero =>
    intro k i hi hk ha
    obtain ⟨k, rfl⟩ : ∃ q, k = q + 1 := ⟨k - 1, by omega⟩
    rw [List.take_of_length_le (by omega)] at ha
    rw [foghornref12_Asked.l0, if_neg (by omega), cutP_none ha]
    rfl
  | succ d ih =>
    intro k i hi hk ha
    obtain ⟨k, rfl⟩ : ∃ q, k = q + 1 := ⟨k - 1, by omega⟩
    have hlt : i < s.data.toList.length := by omega
    rw [foghornref12_Asked.l0, if_pos (by omega), n0, ask_l1 s hs i hlt 4 k 0 (by omega) (by omega) (fun t ht => absurd ht (by omega))]
    cases hc : signB (s.data.toList[i])
    · rw [if_neg (by simp)]
      refine ih (k - 4 - 1) (i + 1) (by omega) (by omega) ?_
      intro c hcm
      rw [List.take_succ_eq_append_getElem hlt, List.mem_append, List.mem_singleton] at hcm
      rcases hcm with hcm | rfl
      · exact ha c hcm
      · exact hc
    · have e : cutP signB s.data.toList = some (s.data.toList.take i, s.data.toList[i], s.data.toList.drop (i + 1)) := by
        conv => lhs; rw [← List.take_append_drop i s.data.toList, drop_cons hlt]
        exact cutP_app hc _ ha
      rw [if_pos rfl, e]
      rfl
theorem ask_f {s : ByteArray} (hs : s.size ≤ 100000) {k : Nat} (hk : 6 * s.size < k) : foghornref12_Asked.f k s = some (askR (cutP signB s.data.toList)) :=
  ask_l0 s hs s.data.toList.length k 0 (by omega) (by rw [len_data]; omega) (by simp)
end Go.Proofs.YtjfknmlchdifjaaGreatDoorQ.P
namespace Go.Proofs.YtjfknmlchdifjaaGreatDoorQ.P
open Go.RowKit Go.Proofs.YtjfknmlchdifjaaGreatDoorW.PrintWords Go.Proofs.YtjfknmlchdifjaaGreatDoorW.PrintLast Go.Proofs.YtjfknmlchdifjaaGreatDoorW.PrintMore Go.Proofs.YtjfknmlchdifjaaGreatDoor
theorem tx_app (a b : List UInt8) : tx a ++ tx b = tx (a ++ b) := by
  apply ByteArray.ext
  rw [ByteArray.data_append]
  simp [tx]
theorem strOf_one (n : Nat) (h : n < 10) : strOfNums [(wrap64 (48 + (n : Int))) % 256] = tx [UInt8.ofNat (48 + n)] := by
  have e : (wrap64 (48 + (n : Int))) % 256 = ((48 + n : Nat) : Int) := by
    rw [w64 (by omega) (by omega)]
    omega
  rw [e]
  unfold strOfNums tx
  simp only [List.map_cons, List.map_nil, Int.toNat_natCast]
theorem digits_f : ∀ (k n : Nat), n < 10 ^ k → n ≤ 1000000000000000000 → foghornref12_Digits.f (k + 1) (n : Int) = some (tx (Lib.decDigits n))
  | k, n, h, hb => by
    rw [foghornref12_Digits.f, Lib.decDigits]
    by_cases hn : n < 10
    · rw [if_pos (by omega), dif_pos hn, strOf_one n hn]
    · rw [if_neg (by omega), dif_neg hn]
      cases k with
      | zero => simp at h; omega
      | succ k =>
        have e1 : wrap64 (Int.tdiv (n : Int) 10) = ((n / 10 : Nat) : Int) := by
          rw [Int.tdiv_eq_ediv_of_nonneg (by omega), w64 (by omega) (by omega)]
          omega
        have e2 : Int.tmod (n : Int) 10 = ((n % 10 : Nat) : Int) := by
          rw [Int.tmod_eq_emod_of_nonneg (by omega)]
          omega
        have hd : ∀ m, m < 10 → Lib.decDigits m = [UInt8.ofNat (48 + m)] := fun m hm => by rw [Lib.decDigits, dif_pos hm]
        have hl := dec_len 18 (n / 10) (by omega)
        rw [e1, e2, digits_f k (n / 10) (by rw [Nat.pow_succ] at h; omega) (by omega), Option.bind_some]
        have e3 : foghornref12_Digits.f (k + 1) ((n % 10 : Nat) : Int) = some (tx (Lib.decDigits (n % 10))) := by
          rw [foghornref12_Digits.f, if_pos (by omega), strOf_one _ (by omega), hd _ (by omega)]
        rw [e3, Option.bind_some, if_pos (by rw [tx_size, tx_size, hd (n % 10) (by omega)]; simp; omega), tx_app, hd (n % 10) (by omega)]
theorem numV_take {l : List UInt8} {i : Nat} (h : i < l.length) : numV (l.take (i + 1)) = 10 * numV (l.take i) + ((l[i]).toNat - 48) := by
  rw [List.take_succ_eq_append_getElem h, numV_snoc]
theorem dig_no {c : UInt8} (h : c.toNat < 48 ∨ 57 < c.toNat) : digB c = false := by
  unfold digB
  rcases h with h | h
  · rw [decide_eq_false (p := 48 ≤ c.toNat) (by omega), Bool.false_and]
  · rw [decide_eq_false (p := c.toNat ≤ 57) (by omega), Bool.and_false]
theorem number_l (s : ByteArray) (hs : s.size ≤ 100000) (d : Nat) : ∀ (k i n : Nat), i + d = s.data.toList.length → d + 21 < k → n = numV (s.data.toList.take i) → n ≤ 20000000000000 → 
    ∃ v : Int, foghornref12_Number.l0 k s (n : Int) (i : Int) = some (v, numB s.data.toList) ∧ (numB s.data.toList = true → v = (numV s.data.toList : Int)) := by
  have hl := len_data s
  induction d with
  | zero =>
    intro k i n hi hk hv hb
    obtain ⟨k, rfl⟩ : ∃ q, k = q + 1 := ⟨k - 1, by omega⟩
    rw [List.take_of_length_le (by omega)] at hv
    rw [foghornref12_Number.l0, if_neg (by omega), toList_data]
    subst hv
    by_cases he : s.data.toList = []
    · rw [if_pos he, he, numB_nil]
      exact ⟨_, rfl, fun h => by cases h⟩
    · rw [if_neg he]
      by_cases hbig : numV s.data.toList ≤ 1099511627776
      · obtain ⟨k, rfl⟩ : ∃ q, k = q + 1 := ⟨k - 1, by omega⟩
        rw [if_pos (by omega), digits_f k _ (Nat.lt_of_lt_of_le (show numV s.data.toList < 10 ^ 20 by omega) (Nat.pow_le_pow_right (by omega) (by omega))) (by omega), Option.bind_some, tx_toList]
        refine ⟨_, ?_, fun _ => rfl⟩
        congr 2
        unfold numB
        rw [decide_eq_true hbig, Bool.and_true, Bool.eq_iff_iff, beq_iff_eq, decide_eq_true_eq]
      · rw [if_neg (by omega)]
        have : numB s.data.toList = false := by
          unfold numB
          rw [decide_eq_false hbig, Bool.and_false]
        rw [this]
        exact ⟨_, rfl, fun h => by cases h⟩
  | succ d ih =>
    intro k i n hi hk hv hb
    obtain ⟨k, rfl⟩ : ∃ q, k = q + 1 := ⟨k - 1, by omega⟩
    have hlt : i < s.data.toList.length := by omega
    have hd : s.data.toList = s.data.toList.take i ++ s.data.toList[i] :: s.data.toList.drop (i + 1) := by rw [← drop_cons hlt, List.take_append_drop]
    have bad : digB (s.data.toList[i]) = false → numB s.data.toList = false := fun h => numB_no_dig (all_no hlt h)
    have hc := (s.data.toList[i]).toNat_lt
    rw [foghornref12_Number.l0, if_pos (by omega), if_pos (by omega), bt_list hlt]
    by_cases h1 : (s.data.toList[i]).toNat < 48
    · rw [if_pos (by omega), bad (dig_no (by omega))]
      exact ⟨_, rfl, fun h => by cases h⟩
    · rw [if_neg (by omega)]
      by_cases h2 : 57 < (s.data.toList[i]).toNat
      · rw [if_pos (by omega), bad (dig_no (by omega))]
        exact ⟨_, rfl, fun h => by cases h⟩
      · rw [if_neg (by omega)]
        by_cases h3 : 1099511627776 < n
        · rw [if_pos (by omega)]
          have : numB s.data.toList = false := by
            conv => lhs; rw [hd]
            exact numB_big (by omega)
          rw [this]
          exact ⟨_, rfl, fun h => by cases h⟩
        · rw [if_neg (by omega)]
          have e : wrap64 (wrap64 (10 * (n : Int)) + (((s.data.toList[i]).toNat : Int) - 48) % 256) = ((10 * n + ((s.data.toList[i]).toNat - 48) : Nat) : Int) := by
            rw [w64 (x := 10 * (n : Int)) (by omega) (by omega), w64 (by omega) (by omega)]
            omega
          rw [e, w64s (by omega)]
          exact ih k (i + 1) _ (by omega) (by omega) (by rw [numV_take hlt, hv]) (by omega)
theorem number_f {s : ByteArray} (hs : s.size ≤ 100000) {k : Nat} (hk : s.size + 21 < k) : ∃ v : Int, foghornref12_Number.f k s = some (v, numB s.data.toList) ∧ (numB s.data.toList = true → v = (numV s.data.toList : Int)) :=
  number_l s hs s.data.toList.length k 0 0 (by omega) (by rw [len_data]; omega) rfl (by omega)
theorem idx_cut (p : UInt8 → Bool) (cs : List UInt8) (hp : ∀ c, p c = cs.contains c) : ∀ l : List UInt8, (Lib.indexAny l cs = -1 ∧ cutP p l = none) ∨ ∃ i c, ∃ h : i < l.length, Lib.indexAny l cs = (i : Nat) ∧ l[i] = c ∧ p c = true ∧ cutP p l = some (l.take i, c, l.drop (i + 1))
  | [] => .inl ⟨rfl, rfl⟩
  | b :: l => by
    cases hb : p b with
    | true =>
      refine .inr ⟨0, b, by simp, ?_, rfl, hb, ?_⟩
      · rw [Lib.indexAny, ← hp, hb, if_pos rfl]; rfl
      · rw [cutP, if_pos hb]; rfl
    | false =>
      have e1 : Lib.indexAny (b :: l) cs = if Lib.indexAny l cs == -1 then -1 else Lib.indexAny l cs + 1 := by rw [Lib.indexAny, ← hp, hb, if_neg (by simp)]
      have e2 : cutP p (b :: l) = (cutP p l).map fun r => (b :: r.1, r.2.1, r.2.2) := by rw [cutP, if_neg (by simp [hb])]
      rcases idx_cut p cs hp l with ⟨h1, h2⟩ | ⟨i, c, h, h1, h2, h3, h4⟩
      · exact .inl ⟨by rw [e1, h1]; rfl, by rw [e2, h2]; rfl⟩
      · refine .inr ⟨i + 1, c, by simp; omega, ?_, by simpa using h2, h3, ?_⟩
        · rw [e1, h1, if_neg (by simp)]; push_cast; rfl
        · rw [e2, h4]; rfl
def askW4 : Option Mat → Int × ByteArray × ByteArray × Int
  | none => (0, ⟨#[]⟩, ⟨#[]⟩, 13)
  | some m => (m.kind, m.name, m.value, 0)
theorem asked_f {s : ByteArray} (hs : s.size ≤ 100000) : wire_Asked.f s = some (askW4 (askP s.data.toList)) := by
  have hl := len_data s
  unfold wire_Asked.f strings_IndexAny.f
  rw [if_pos ⟨by omega, rfl⟩, Option.bind_some]
  unfold askP
  rcases idx_cut signB signs (fun _ => rfl) s.data.toList with ⟨h1, h2⟩ | ⟨i, c, h, h1, h2, h3, h4⟩
  · rw [h1, h2, if_pos (by omega)]
    rfl
  · rw [h1, h4, if_neg (by omega), if_pos (by omega), if_pos (by omega), w64s (by omega), if_pos (by omega), if_pos (by omega), if_pos (by omega), bt_list h, h2, Int.toNat_natCast, Int.toNat_natCast, ex_take, ex_drop]
    simp only
    have hm : ∀ q : Int, label_Matcher.f q (tx (s.data.toList.take i)) (tx (s.data.toList.drop (i + 1))) = some (matB ⟨q, tx (s.data.toList.take i), tx (s.data.toList.drop (i + 1))⟩) := by
      intro q
      unfold label_Matcher.f
      rw [if_pos (matOkB_of (by rw [tx_size, List.length_take]; omega) (by rw [tx_size, List.length_drop]; omega))]
    have hw : wrap32 ((c.toNat : Nat) : Int) = ((c.toNat : Nat) : Int) := by
      have := c.toNat_lt
      unfold wrap32
      omega
    rw [hw]
    simp only [hm, Option.bind_some]
    simp only [signB, signs, List.contains_cons, List.contains_nil, Bool.or_false, Bool.or_eq_true, beq_iff_eq] at h3
    rcases h3 with rfl | rfl | rfl | rfl
    · rw [if_pos (by rfl)]
      have e : askM (List.take i s.data.toList, 61, List.drop (i + 1) s.data.toList) = ⟨0, tx (List.take i s.data.toList), tx (List.drop (i + 1) s.data.toList)⟩ := rfl
      rw [e]
      split <;> rfl
    · rw [if_neg (by decide), if_pos (by rfl)]
      have e : askM (List.take i s.data.toList, 33, List.drop (i + 1) s.data.toList) = ⟨1, tx (List.take i s.data.toList), tx (List.drop (i + 1) s.data.toList)⟩ := rfl
      rw [e]
      split <;> rfl
    · rw [if_neg (by decide), if_neg (by decide), if_pos (by rfl)]
      have e : askM (List.take i s.data.toList, 94, List.drop (i + 1) s.data.toList) = ⟨2, tx (List.take i s.data.toList), tx (List.drop (i + 1) s.data.toList)⟩ := rfl
      rw [e]
      split <;> rfl
    · rw [if_neg (by decide), if_neg (by decide), if_neg (by decide)]
      have e : askM (List.take i s.data.toList, 63, List.drop (i + 1) s.data.toList) = ⟨3, tx (List.take i s.data.toList), tx (List.drop (i + 1) s.data.toList)⟩ := rfl
      rw [e]
      split <;> rfl
end Go.Proofs.YtjfknmlchdifjaaGreatDoorQ.P
namespace Go.Proofs.YtjfknmlchdifjaaGreatDoorQ.P
open Go.RowKit Go.Proofs.YtjfknmlchdifjaaGreatDoorW.PrintWords Go.Proofs.YtjfknmlchdifjaaGreatDoorW.PrintLast Go.Proofs.YtjfknmlchdifjaaGreatDoorW.PrintMore Go.Proofs.YtjfknmlchdifjaaGreatDoor
def msgR (r : Msg × Int) : Int × (List S52) × Int × Int × (List S32) × Int := (r.1.kind, r.1.labs.map ofLab, r.1.fr, r.1.til, r.1.asked.map ofMat, r.2)
def alertF (k : Int) : Option (List Lab) → Msg × Int
  | none => (Msg.zero, 13)
  | some l => if sortE l = 0 then (⟨k, sortL l, 0, 0, []⟩, 0) else (Msg.zero, sortE l)
theorem alertP_F (k : Int) (ws : List (List UInt8)) : alertP k ws = alertF k (readAll labP ws) := by
  unfold alertP alertF
  cases readAll labP ws <;> rfl
def hushF (f t : Int) : Option (List Mat) → Msg × Int
  | none => (Msg.zero, 13)
  | some ms => if 4 < ms.length then (Msg.zero, 2) else if t ≤ f then (Msg.zero, 3) else (⟨2, [], f, t, ms⟩, 0)
def dat (ws : List ByteArray) : List (List UInt8) := ws.map fun w => w.data.toList
theorem dat_cons {ws : List ByteArray} {i : Nat} (h : i < ws.length) : dat (ws.drop i) = ws[i].data.toList :: dat (ws.drop (i + 1)) := by rw [drop_cons h]; rfl
theorem map_app {α : Type} (xs : List α) (x : α) (o : Option (List α)) : (o.map (x :: ·)).map (xs ++ ·) = o.map ((xs ++ [x]) ++ ·) := by cases o <;> simp
theorem labsB_one (x : Lab) : labsB [x] = labB x := by
  unfold labsB eachB risesB
  simp
theorem labB_sz {x : Lab} (h : labB x = true) : x.name.size ≤ 8 ∧ x.value.size ≤ 8 := by
  unfold labB at h
  rw [Bool.and_eq_true] at h
  exact ⟨(nameB_all h.1).2.2, (valB_all h.2).2⟩
theorem labsOkB_of {l : List Lab} (h : ∀ x ∈ l, x.name.size ≤ 1000000 ∧ x.value.size ≤ 1000000) : labsOkB (l.map ofLab) = true := by
  unfold labsOkB
  rw [List.all_eq_true]
  intro y hy
  obtain ⟨x, hx, rfl⟩ := List.mem_map.1 hy
  have := h x hx
  unfold labOkB ofLab maxLen
  simp
  omega
theorem sort_f {xs : List Lab} (h : ∀ x ∈ xs, labB x = true) : label_Sort.f (xs.map ofLab) = some ((sortL xs).map ofLab, sortE xs) := by
  unfold label_Sort.f
  rw [if_pos (labsOkB_of fun x hx => by have := labB_sz (h x hx); omega), labs_to_of]
theorem right1_f {x : Lab} (h : x.name.size ≤ 1000000 ∧ x.value.size ≤ 1000000) : label_Right.f [ofLab x] = some (labB x) := by
  have h1 : labsOkB [ofLab x] = true := labsOkB_of (l := [x]) fun y hy => by rw [List.mem_singleton.1 hy]; exact h
  unfold label_Right.f
  rw [if_pos h1]
  show some (labsB [x]) = _
  rw [labsB_one]
theorem cut_none {w : ByteArray} (hs : w.size ≤ 1000000) (h : cutP eqB w.data.toList = none) : strings_Cut.f w (⟨#[61]⟩ : ByteArray) = some (w, ⟨#[]⟩, false) := by
  unfold strings_Cut.f
  rw [if_pos ⟨hs, rfl⟩]
  unfold cutT
  rw [show cutP (fun b => b == (⟨#[61]⟩ : ByteArray).data.toList.headD 0) w.data.toList = none from h]
theorem cut_some {w : ByteArray} {r : List UInt8 × UInt8 × List UInt8} (hs : w.size ≤ 1000000) (h : cutP eqB w.data.toList = some r) : strings_Cut.f w (⟨#[61]⟩ : ByteArray) = some (tx r.1, tx r.2.2, true) := by
  unfold strings_Cut.f
  rw [if_pos ⟨hs, rfl⟩]
  unfold cutT
  rw [show cutP (fun b => b == (⟨#[61]⟩ : ByteArray).data.toList.headD 0) w.data.toList = some r from h]
theorem split_f {s : ByteArray} (hs : s.size ≤ 1000000) : strings_Split.f s (⟨#[32]⟩ : ByteArray) = some (wordsT 32 s) := by
  unfold strings_Split.f
  rw [if_pos ⟨hs, rfl⟩]
  rfl
theorem time_f {s : ByteArray} (hs : s.size ≤ 1000000) : wire_time.f s = some (atoiV s.data.toList, numB s.data.toList) := by
  unfold wire_time.f
  rw [if_pos hs, atoiB_eq]
theorem labP_none {l : List UInt8} (h : cutP eqB l = none) : labP l = none := by unfold labP; rw [h]
theorem labP_some {l : List UInt8} {r : List UInt8 × UInt8 × List UInt8} (h : cutP eqB l = some r) (hl : labB (labM r) = true) : labP l = some (labM r) := by unfold labP; rw [h]; exact if_pos hl
theorem labP_bad {l : List UInt8} {r : List UInt8 × UInt8 × List UInt8} (h : cutP eqB l = some r) (hl : ¬ labB (labM r) = true) : labP l = none := by unfold labP; rw [h]; exact if_neg hl
theorem askP_none {l : List UInt8} (h : cutP signB l = none) : askP l = none := by unfold askP; rw [h]
theorem askP_some {l : List UInt8} {r : List UInt8 × UInt8 × List UInt8} (h : cutP signB l = some r) (hl : matB (askM r) = true) : askP l = some (askM r) := by unfold askP; rw [h]; exact if_pos hl
theorem askP_bad {l : List UInt8} {r : List UInt8 × UInt8 × List UInt8} (h : cutP signB l = some r) (hl : ¬ matB (askM r) = true) : askP l = none := by unfold askP; rw [h]; exact if_neg hl
theorem alert_l (kd : Int) (ws : List ByteArray) (hw : ∀ w ∈ ws, w.size ≤ 100000) (hn : ws.length ≤ 100000) (d : Nat) : ∀ (k i : Nat) (xs : List Lab), i + d = ws.length → d < k → xs.length ≤ i → (∀ x ∈ xs, labB x = true) →
    wire_alert.l0 k kd (xs.map ofLab) ws (ws.length : Int) (i : Int) = some (msgR (alertF kd ((readAll labP (dat (ws.drop i))).map (xs ++ ·)))) := by
  induction d with
  | zero =>
    intro k i xs hi hk hx hb
    obtain ⟨k, rfl⟩ : ∃ q, k = q + 1 := ⟨k - 1, by omega⟩
    rw [wire_alert.l0, if_neg (by omega), sort_f hb, Option.bind_some, drop_end (by omega)]
    simp only [dat, List.map_nil, readAll, Option.map_some, List.append_nil, alertF]
    split <;> rfl
  | succ d ih =>
    intro k i xs hi hk hx hb
    obtain ⟨k, rfl⟩ : ∃ q, k = q + 1 := ⟨k - 1, by omega⟩
    have hlt : i < ws.length := by omega
    have hsz := hw _ (List.getElem_mem hlt)
    rw [wire_alert.l0, if_pos (by omega), if_pos (by omega), if_pos (by omega), rdB hlt, dat_cons hlt]
    generalize ws[i] = w at hsz ⊢
    rw [readAll]
    cases hc : cutP eqB w.data.toList with
    | none =>
      rw [cut_none (by omega) hc, labP_none hc]
      rfl
    | some r =>
      have hA : (tx r.1).size ≤ 1000000 ∧ (tx r.2.2).size ≤ 1000000 := by
        rcases r with ⟨ra, rc, rb⟩
        show (tx ra).size ≤ 1000000 ∧ (tx rb).size ≤ 1000000
        rw [tx_size, tx_size]
        have h9 := congrArg List.length (cutP_some hc).1
        simp only [List.length_append, List.length_cons] at h9
        rw [len_data] at h9
        omega
      have hr : label_Right.f [(⟨tx r.1, tx r.2.2⟩ : S52)] = some (labB (labM r)) := right1_f (x := labM r) hA
      rw [cut_some (by omega) hc, Option.bind_some, Option.bind_some, if_pos rfl, hr, Option.bind_some]
      by_cases hl : labB (labM r) = true
      · rw [if_pos hl, labP_some hc hl, if_pos (by simp; omega), w64s (by omega)]
        have e : xs.map ofLab ++ [(⟨tx r.1, tx r.2.2⟩ : S52)] = (xs ++ [labM r]).map ofLab := by simp [ofLab, labM]
        rw [e, ih k (i + 1) (xs ++ [labM r]) (by omega) (by omega) (by simp; omega) (by
          intro x hx
          rcases List.mem_append.1 hx with hx | hx
          · exact hb x hx
          · rw [List.mem_singleton.1 hx]; exact hl)]
        simp only
        rw [map_app]
      · rw [if_neg hl, labP_bad hc hl]
        rfl
theorem alert_f (kd : Int) {ws : List ByteArray} (hw : ∀ w ∈ ws, w.size ≤ 100000) (hn : ws.length ≤ 100000) {k : Nat} (hk : ws.length < k) : wire_alert.f k kd ws = some (msgR (alertP kd (dat ws))) := by
  have := alert_l kd ws hw hn ws.length k 0 [] (by omega) hk (by simp) (by simp)
  unfold wire_alert.f
  rw [alertP_F, n0]
  simpa using this
theorem ralert_l (kd : Int) (ws : List ByteArray) (hw : ∀ w ∈ ws, w.size ≤ 1000) (hn : ws.length ≤ 100000) (d : Nat) : ∀ (k i : Nat) (xs : List Lab), i + d = ws.length → d + 2100 < k → xs.length ≤ i → (∀ x ∈ xs, labB x = true) →
    foghornref12_alert.l0 k kd (xs.map ofLab) ws (ws.length : Int) (i : Int) = some (msgR (alertF kd ((readAll labP (dat (ws.drop i))).map (xs ++ ·)))) := by
  induction d with
  | zero =>
    intro k i xs hi hk hx hb
    obtain ⟨k, rfl⟩ : ∃ q, k = q + 1 := ⟨k - 1, by omega⟩
    have hs := sort10_f (xs.map ofLab) k (by omega) (labsOkB_of fun x hx => by have := labB_sz (hb x hx); omega)
    rw [labs_to_of] at hs
    rw [foghornref12_alert.l0, if_neg (by omega), hs, Option.bind_some, drop_end (by omega)]
    simp only [dat, List.map_nil, readAll, Option.map_some, List.append_nil, alertF]
    split <;> rfl
  | succ d ih =>
    intro k i xs hi hk hx hb
    obtain ⟨k, rfl⟩ : ∃ q, k = q + 1 := ⟨k - 1, by omega⟩
    have hlt : i < ws.length := by omega
    have hsz := hw _ (List.getElem_mem hlt)
    rw [foghornref12_alert.l0, if_pos (by omega), if_pos (by omega), if_pos (by omega), rdB hlt, dat_cons hlt, label_f (by omega) (by omega), Option.bind_some, readAll]
    generalize ws[i] = w at hsz ⊢
    cases hc : cutP eqB w.data.toList with
    | none =>
      rw [labP_none hc]
      rfl
    | some r =>
      show (if (nameB (tx r.1) && valB (tx r.2.2)) = true then _ else _) = _
      by_cases hl : labB (labM r) = true
      · have hl' : (nameB (tx r.1) && valB (tx r.2.2)) = true := hl
        rw [if_pos hl', labP_some hc hl, if_pos (by rw [List.length_map]; omega), w64s (by omega)]
        have e : xs.map ofLab ++ [(⟨tx r.1, tx r.2.2⟩ : S52)] = (xs ++ [labM r]).map ofLab := by simp [ofLab, labM]
        show foghornref12_alert.l0 k kd (xs.map ofLab ++ [(⟨tx r.1, tx r.2.2⟩ : S52)]) _ _ _ = _
        rw [e, ih k (i + 1) (xs ++ [labM r]) (by omega) (by omega) (by simp; omega) (by
          intro x hx
          rcases List.mem_append.1 hx with hx | hx
          · exact hb x hx
          · rw [List.mem_singleton.1 hx]; exact hl)]
        simp only
        rw [map_app]
      · have hl' : ¬ (nameB (tx r.1) && valB (tx r.2.2)) = true := hl
        rw [if_neg hl', labP_bad hc hl]
        rfl
theorem ralert_f (kd : Int) {ws : List ByteArray} (hw : ∀ w ∈ ws, w.size ≤ 1000) (hn : ws.length ≤ 100000) {k : Nat} (hk : ws.length + 2100 < k) : foghornref12_alert.f k kd ws = some (msgR (alertP kd (dat ws))) := by
  have := ralert_l kd ws hw hn ws.length k 0 [] (by omega) hk (by simp) (by simp)
  unfold foghornref12_alert.f
  rw [alertP_F, n0]
  simpa using this
theorem hush_l (ws : List ByteArray) (hw : ∀ w ∈ ws, w.size ≤ 100000) (hn : ws.length ≤ 100000) (f t : Int) (d : Nat) : ∀ (k i : Nat) (xs : List Mat), i + d = ws.length → d < k → xs.length ≤ i →
    wire_hush.l0 k ws (ws.length : Int) (i : Int) f t (xs.map ofMat) = some (msgR (hushF f t ((readAll askP (dat (ws.drop i))).map (xs ++ ·)))) := by
  induction d with
  | zero =>
    intro k i xs hi hk hx
    obtain ⟨k, rfl⟩ : ∃ q, k = q + 1 := ⟨k - 1, by omega⟩
    rw [wire_hush.l0, if_neg (by omega), drop_end (by omega)]
    simp only [dat, List.map_nil, readAll, Option.map_some, List.append_nil, hushF, List.length_map]
    by_cases h4 : 4 < xs.length
    · rw [if_pos (by omega), if_pos h4]; rfl
    · rw [if_neg (by omega), if_neg h4]
      by_cases h5 : t ≤ f
      · rw [if_pos (by omega), if_pos h5]; rfl
      · rw [if_neg (by omega), if_neg h5]; rfl
  | succ d ih =>
    intro k i xs hi hk hx
    obtain ⟨k, rfl⟩ : ∃ q, k = q + 1 := ⟨k - 1, by omega⟩
    have hlt : i < ws.length := by omega
    have hsz := hw _ (List.getElem_mem hlt)
    rw [wire_hush.l0, if_pos (by omega), if_pos (by omega), if_pos (by omega), rdB hlt, dat_cons hlt, asked_f hsz, Option.bind_some, readAll]
    cases hc : askP ws[i].data.toList with
    | none =>
      show (if (13 : Int) = 0 then _ else _) = _
      rw [if_neg (by decide)]
      rfl
    | some m =>
      show (if (0 : Int) = 0 then _ else _) = _
      rw [if_pos rfl, if_pos (by rw [List.length_map]; omega), w64s (by omega)]
      show wire_hush.l0 k _ _ _ _ _ (xs.map ofMat ++ [(⟨m.kind, m.name, m.value⟩ : S32)]) = _
      have e : xs.map ofMat ++ [(⟨m.kind, m.name, m.value⟩ : S32)] = (xs ++ [m]).map ofMat := by simp [ofMat]
      rw [e, ih k (i + 1) (xs ++ [m]) (by omega) (by omega) (by simp; omega), map_app]
theorem rhush_l (ws : List ByteArray) (hw : ∀ w ∈ ws, w.size ≤ 1000) (hn : ws.length ≤ 100000) (f t : Int) (d : Nat) : ∀ (k i : Nat) (xs : List Mat), i + d = ws.length → d + 6100 < k → xs.length ≤ i →
    foghornref12_hush.l0 k f t ws (ws.length : Int) (i : Int) f t (xs.map ofMat) = some (msgR (hushF f t ((readAll askP (dat (ws.drop i))).map (xs ++ ·)))) := by
  induction d with
  | zero =>
    intro k i xs hi hk hx
    obtain ⟨k, rfl⟩ : ∃ q, k = q + 1 := ⟨k - 1, by omega⟩
    rw [foghornref12_hush.l0, if_neg (by omega), drop_end (by omega)]
    simp only [dat, List.map_nil, readAll, Option.map_some, List.append_nil, hushF, List.length_map]
    by_cases h4 : 4 < xs.length
    · rw [if_pos (by omega), if_pos h4]; rfl
    · rw [if_neg (by omega), if_neg h4]
      by_cases h5 : t ≤ f
      · rw [if_pos (by omega), if_pos h5]; rfl
      · rw [if_neg (by omega), if_neg h5]; rfl
  | succ d ih =>
    intro k i xs hi hk hx
    obtain ⟨k, rfl⟩ : ∃ q, k = q + 1 := ⟨k - 1, by omega⟩
    have hlt : i < ws.length := by omega
    have hsz := hw _ (List.getElem_mem hlt)
    rw [foghornref12_hush.l0, if_pos (by omega), if_pos (by omega), if_pos (by omega), rdB hlt, dat_cons hlt, ask_f (by omega) (by omega), Option.bind_some, readAll]
    cases hc : cutP signB ws[i].data.toList with
    | none =>
      rw [askP_none hc]
      rfl
    | some r =>
      show (if matB (askM r) = true then _ else _) = _
      by_cases hm : matB (askM r) = true
      · rw [if_pos hm, askP_some hc hm, if_pos (by rw [List.length_map]; omega), w64s (by omega)]
        have e : xs.map ofMat ++ [(⟨kindOf r.2.1, tx r.1, tx r.2.2⟩ : S32)] = (xs ++ [askM r]).map ofMat := by simp [ofMat, askM]
        show foghornref12_hush.l0 k _ _ _ _ _ _ _ (xs.map ofMat ++ [(⟨kindOf r.2.1, tx r.1, tx r.2.2⟩ : S32)]) = _
        rw [e, ih k (i + 1) (xs ++ [askM r]) (by omega) (by omega) (by simp; omega)]
        simp only
        rw [map_app]
      · rw [if_neg hm, askP_bad hc hm]
        rfl
theorem hushP_F (f t : List UInt8) (w : List UInt8) (r : List (List UInt8)) : hushP (f :: t :: w :: r) = if (numB f && numB t) = true then hushF (numV f) (numV t) (readAll askP (w :: r)) else (Msg.zero, 13) := by
  simp only [hushP]
  by_cases hc : (numB f && numB t) = true
  · rw [if_pos hc, if_pos hc]
    cases readAll askP (w :: r) <;> rfl
  · rw [if_neg hc, if_neg hc]
theorem hush_f {ws : List ByteArray} (hw : ∀ w ∈ ws, w.size ≤ 100000) (hn : ws.length ≤ 100000) {k : Nat} (hk : ws.length + 1 < k) : wire_hush.f k ws = some (msgR (hushP (dat ws))) := by
  obtain ⟨k, rfl⟩ : ∃ q, k = q + 1 := ⟨k - 1, by omega⟩
  unfold wire_hush.f
  match ws, hw, hn, hk with
  | [], _, _, _ => rfl
  | [_], _, _, _ => rfl
  | [_, _], _, _, _ => rfl
  | f :: t :: w :: r, hw, hn, hk =>
    simp only [List.length_cons] at hn hk ⊢
    rw [if_neg (by push_cast; omega), if_pos (by push_cast; omega), show rdOf ByteArray.empty (f :: t :: w :: r) 0 = f from rfl, show rdOf ByteArray.empty (f :: t :: w :: r) 1 = t from rfl, time_f (by have := hw f (by simp); omega), time_f (by have := hw t (by simp); omega), Option.bind_some, if_pos (by push_cast; omega), Option.bind_some]
    simp only
    show _ = some (msgR (hushP (f.data.toList :: t.data.toList :: w.data.toList :: dat r)))
    rw [hushP_F]
    cases h1 : numB f.data.toList with
    | false =>
      rw [if_neg (by simp), Bool.false_and, if_neg (by simp), wire_hush.j0, if_pos rfl]
      rfl
    | true =>
      cases h2 : numB t.data.toList with
      | false =>
        rw [if_pos rfl, Bool.and_false, if_neg (by simp), wire_hush.j0, if_pos (show (!false) = true from rfl)]
        rfl
      | true =>
        rw [if_pos rfl, Bool.and_true, if_pos rfl, wire_hush.j0, if_neg (by simp), if_pos (by simp only [List.length_cons]; push_cast; omega), atoiV_num h1, atoiV_num h2]
        have := hush_l (w :: r) (fun x hx => hw x (List.mem_cons_of_mem f (List.mem_cons_of_mem t hx))) (by simp only [List.length_cons]; omega) (numV f.data.toList) (numV t.data.toList) (w :: r).length k 0 [] (by omega) (by simp only [List.length_cons]; omega) (by simp)
        simp only [List.drop_succ_cons, List.drop_zero, List.map_nil, List.nil_append, Option.map_id'] at this ⊢
        exact this
theorem rhush_f {ws : List ByteArray} (hw : ∀ w ∈ ws, w.size ≤ 1000) (hn : ws.length ≤ 100000) {k : Nat} (hk : ws.length + 6200 < k) : foghornref12_hush.f k ws = some (msgR (hushP (dat ws))) := by
  obtain ⟨k, rfl⟩ : ∃ q, k = q + 1 := ⟨k - 1, by omega⟩
  unfold foghornref12_hush.f
  match ws, hw, hn, hk with
  | [], _, _, _ => rfl
  | [_], _, _, _ => rfl
  | [_, _], _, _, _ => rfl
  | f :: t :: w :: r, hw, hn, hk =>
    simp only [List.length_cons] at hn hk ⊢
    obtain ⟨v1, e1, g1⟩ := number_f (s := f) (by have := hw f (by simp); omega) (k := k + 1) (by have := hw f (by simp); omega)
    obtain ⟨v2, e2, g2⟩ := number_f (s := t) (by have := hw t (by simp); omega) (k := k + 1) (by have := hw t (by simp); omega)
    rw [if_neg (by push_cast; omega), if_pos (by push_cast; omega), show rdOf ByteArray.empty (f :: t :: w :: r) 0 = f from rfl, show rdOf ByteArray.empty (f :: t :: w :: r) 1 = t from rfl, e1, e2, Option.bind_some, if_pos (by push_cast; omega), Option.bind_some]
    show _ = some (msgR (hushP (f.data.toList :: t.data.toList :: w.data.toList :: dat r)))
    rw [hushP_F]
    simp only
    cases h1 : numB f.data.toList with
    | false =>
      rw [if_neg (by simp), Bool.false_and, if_neg (by simp), foghornref12_hush.j0, if_pos rfl]
      rfl
    | true =>
      cases h2 : numB t.data.toList with
      | false =>
        rw [if_pos rfl, Bool.and_false, if_neg (by simp), foghornref12_hush.j0, if_pos (show (!false) = true from rfl)]
        rfl
      | true =>
        rw [if_pos rfl, Bool.and_true, if_pos rfl, foghornref12_hush.j0, if_neg (by simp), if_pos (by simp only [List.length_cons]; push_cast; omega), g1 h1, g2 h2]
        have := rhush_l (w :: r) (fun x hx => hw x (List.mem_cons_of_mem f (List.mem_cons_of_mem t hx))) (by simp only [List.length_cons]; omega) (numV f.data.toList) (numV t.data.toList) (w :: r).length k 0 [] (by omega) (by simp only [List.length_cons]; omega) (by simp)
        simp only [List.drop_succ_cons, List.drop_zero, List.map_nil, List.nil_append, Option.map_id'] at this ⊢
        exact this
theorem words_ok {s : ByteArray} {n : Nat} (h : s.size ≤ n) : (∀ w ∈ wordsT 32 s, w.size ≤ n) ∧ (wordsT 32 s).length ≤ n + 1 ∧ dat (wordsT 32 s) = splitL 32 s.data.toList := by
  have hl := len_data s
  refine ⟨fun w hw => ?_, ?_, ?_⟩
  · obtain ⟨x, hx, rfl⟩ := List.mem_map.1 hw
    have := (splitL_mem 32 _ x hx).2
    rw [tx_size]
    omega
  · have := splitL_len 32 s.data.toList
    unfold wordsT
    rw [List.length_map]
    omega
  · unfold dat wordsT
    rw [List.map_map]
    have : ((fun w : ByteArray => w.data.toList) ∘ tx) = id := by funext x; rfl
    rw [this, List.map_id]
theorem parse_f {s : ByteArray} (hs : s.size ≤ 100000) {k : Nat} (hk : 300 < k) : wire_Parse.f k s = some (msgR (parseP s.data.toList)) := by
  have hl := len_data s
  unfold wire_Parse.f parseP
  by_cases hb : 200 < s.size
  · rw [if_pos (by omega), if_pos (by omega)]
    rfl
  · rw [if_neg (by omega), if_neg (by omega)]
    rw [split_f (by omega), Option.bind_some]
    obtain ⟨h1, h2, h3⟩ := words_ok (show s.size ≤ 200 by omega)
    generalize wordsT 32 s = ws at h1 h2 h3
    rw [← h3]
    cases ws with
    | nil =>
      obtain ⟨h, t, e⟩ := splitL_form 32 s.data.toList
      rw [e] at h3
      cases h3
    | cons w r =>
      have hr := fun x hx => h1 x (List.mem_cons_of_mem w hx)
      simp only [List.length_cons] at h2
      rw [if_pos (by simp only [List.length_cons]; omega)]
      rw [show rdOf ByteArray.empty (w :: r) 0 = w from rfl, toList_data]
      show _ = some (msgR (parseW (w.data.toList :: dat r)))
      simp only [parseW, List.drop_succ_cons, List.drop_zero]
      by_cases c1 : w.data.toList = [102, 105, 114, 101]
      · rw [if_pos c1, if_pos (show w.data.toList = fireT from c1), if_pos (by simp only [List.length_cons]; omega), alert_f 0 (fun x hx => by have := hr x hx; omega) (by omega) (by omega)]
        rfl
      · rw [if_neg c1, if_neg (show ¬ w.data.toList = fireT from c1)]
        by_cases c2 : w.data.toList = [100, 111, 110, 101]
        · rw [if_pos c2, if_pos (show w.data.toList = doneT from c2), if_pos (by simp only [List.length_cons]; omega), alert_f 1 (fun x hx => by have := hr x hx; omega) (by omega) (by omega)]
          rfl
        · rw [if_neg c2, if_neg (show ¬ w.data.toList = doneT from c2)]
          by_cases c3 : w.data.toList = [104, 117, 115, 104]
          · rw [if_pos c3, if_pos (show w.data.toList = hushT from c3), if_pos (by simp only [List.length_cons]; omega), hush_f (fun x hx => by have := hr x hx; omega) (by omega) (by omega)]
            rfl
          · rw [if_neg c3, if_neg (show ¬ w.data.toList = hushT from c3)]
            rfl
theorem rparse_f {s : ByteArray} (hs : s.size ≤ 100000) {k : Nat} (hk : 7000 < k) : foghornref12_Parse.f k s = some (msgR (parseP s.data.toList)) := by
  have hl := len_data s
  unfold foghornref12_Parse.f parseP
  by_cases hb : 200 < s.size
  · rw [if_pos (by omega), if_pos (by omega)]
    rfl
  · rw [if_neg (by omega), if_neg (by omega), words_f (by omega) (by omega), Option.bind_some]
    obtain ⟨h1, h2, h3⟩ := words_ok (show s.size ≤ 200 by omega)
    generalize wordsT 32 s = ws at h1 h2 h3
    rw [← h3]
    cases ws with
    | nil =>
      obtain ⟨h, t, e⟩ := splitL_form 32 s.data.toList
      rw [e] at h3
      cases h3
    | cons w r =>
      have hr := fun x hx => h1 x (List.mem_cons_of_mem w hx)
      simp only [List.length_cons] at h2
      rw [if_pos (by simp only [List.length_cons]; omega)]
      rw [show rdOf ByteArray.empty (w :: r) 0 = w from rfl, toList_data]
      show _ = some (msgR (parseW (w.data.toList :: dat r)))
      simp only [parseW, List.drop_succ_cons, List.drop_zero]
      by_cases c1 : w.data.toList = [102, 105, 114, 101]
      · rw [if_pos c1, if_pos (show w.data.toList = fireT from c1), if_pos (by simp only [List.length_cons]; omega), ralert_f 0 (fun x hx => by have := hr x hx; omega) (by omega) (by omega)]
        rfl
      · rw [if_neg c1, if_neg (show ¬ w.data.toList = fireT from c1)]
        by_cases c2 : w.data.toList = [100, 111, 110, 101]
        · rw [if_pos c2, if_pos (show w.data.toList = doneT from c2), if_pos (by simp only [List.length_cons]; omega), ralert_f 1 (fun x hx => by have := hr x hx; omega) (by omega) (by omega)]
          rfl
        · rw [if_neg c2, if_neg (show ¬ w.data.toList = doneT from c2)]
          by_cases c3 : w.data.toList = [104, 117, 115, 104]
          · rw [if_pos c3, if_pos (show w.data.toList = hushT from c3), if_pos (by simp only [List.length_cons]; omega), rhush_f (fun x hx => by have := hr x hx; omega) (by omega) (by omega)]
            rfl
          · rw [if_neg c3, if_neg (show ¬ w.data.toList = hushT from c3)]
            rfl
end Go.Proofs.YtjfknmlchdifjaaGreatDoorQ.P
namespace Go.Proofs.YtjfknmlchdifjaaGreatDoorQ.P
open Go.RowKit Go.Proofs.YtjfknmlchdifjaaGreatDoorW.PrintWords Go.Proofs.YtjfknmlchdifjaaGreatDoor
def msg0 : Msg := ⟨2, [], 5, 9, [⟨2, ⟨#[97]⟩, ⟨#[119, 101]⟩⟩, ⟨3, ⟨#[122]⟩, ⟨#[]⟩⟩]⟩
theorem msg0_ok : msg0.okB = true := by decide
theorem msg0_text : msg0.text = [104, 117, 115, 104, 32, 53, 32, 57, 32, 97, 94, 119, 101, 32, 122, 63] := by
  have h5 : Lib.decDigits 5 = [53] := by rw [Lib.decDigits, dif_pos (by omega)]; rfl
  have h9 : Lib.decDigits 9 = [57] := by rw [Lib.decDigits, dif_pos (by omega)]; rfl
  unfold Msg.text Msg.words
  rw [if_pos (show msg0.kind = 2 from rfl), show msg0.fr.toNat = 5 from rfl, show msg0.til.toNat = 9 from rfl, h5, h9]
  rfl
theorem alive12_f {k : Nat} (hk : 300 < k) : foghornlaw12_alive.f k = some true := by
  have h := parse_text msg0_ok
  rw [msg0_text] at h
  unfold foghornlaw12_alive.f
  rw [parse_f (by show 16 ≤ 100000; omega) hk, show (⟨#[104, 117, 115, 104, 32, 53, 32, 57, 32, 97, 94, 119, 101, 32, 122, 63]⟩ : ByteArray).data.toList = [104, 117, 115, 104, 32, 53, 32, 57, 32, 97, 94, 119, 101, 32, 122, 63] from rfl, h, Option.bind_some]
  show (if (0 : Int) = 0 then (if (2 : Int) = 2 then (if (9 : Int) = 9 then (if ((2 : Nat) : Int) = 2 then (if (0 : Int) < ((2 : Nat) : Int) then (some ((⟨#[119, 101]⟩ : ByteArray).toList == ([119, 101] : List UInt8))) else none) else some false) else some false) else some false) else some false) = some true
  rw [if_pos rfl, if_pos rfl, if_pos rfl, if_pos (by omega), if_pos (by omega), toList_data]
  rfl
theorem alive12_only {k : Nat} {r : Bool} (h : foghornlaw12_alive.f k = some r) : r = true := by
  have hm : ∀ d, foghornlaw12_alive.f (k + d) = some r := by
    intro d
    induction d with
    | zero => exact h
    | succ d ih => exact (foghornlaw12_alive.mono (k + d)) _ ih
  have h1 := hm 301
  rw [alive12_f (by omega)] at h1
  exact (Option.some.inj h1).symm
theorem foghornlaw12_alive.calls (k : Nat) (r : Bool) (w : World) (hG : GOK w) (h : foghornlaw12_alive.f k = some r) :
    Calls Tryz.prog 15 #[] w fun e w' => e = .returned (.bool r) ∧ Below w.heap.size w w' := foghornlaw12_alive.callsT k r w hG h (alive12_only h)
end Go.Proofs.YtjfknmlchdifjaaGreatDoorQ.P
namespace Go.Proofs.YtjfknmlchdifjaaGreatDoorQ.P
open Go.RowKit Go.Proofs.YtjfknmlchdifjaaGreatDoorW.PrintWords Go.Proofs.YtjfknmlchdifjaaGreatDoorW.PrintLast Go.Proofs.YtjfknmlchdifjaaGreatDoorW.PrintMore
attribute [local go_sem] max2_int min2_int max_two min_two max_three min_three max_four min_four
theorem eqA32 (d : Nat) (w : World) (x0 y0 : Int) (x1 y1 : ByteArray) (x2 y2 : ByteArray) :
  (Op.equalIn (d + 2) 32 (.agg #[.int .i64 x0, .string x1, .string x2]) (.agg #[.int .i64 y0, .string y1, .string y2])).run Tryz.prog w = .ok (x0 == y0 && (x1.toList == y1.toList && (x2.toList == y2.toList))) w := by
 refine eqA_of Tryz.underlying32 (by kernel_rfl) ?_
 refine eqf_cons (by rfl) (by go_simp; rfl) (by go_simp; rfl) (by go_simp) ?_
 refine eqf_cons (by rfl) (by go_simp; rfl) (by go_simp; rfl) (by go_simp) ?_
 exact eqf_last (by rfl) (by go_simp; rfl) (by go_simp; rfl) (by go_simp)
end Go.Proofs.YtjfknmlchdifjaaGreatDoorQ.P
namespace Go.Proofs.YtjfknmlchdifjaaGreatDoorQ.P
open Go.RowKit Go.Proofs.YtjfknmlchdifjaaGreatDoorW.PrintWords Go.Proofs.YtjfknmlchdifjaaGreatDoorW.PrintLast Go.Proofs.YtjfknmlchdifjaaGreatDoorW.PrintMore
attribute [local go_sem] max2_int min2_int max_two min_two max_three min_three max_four min_four
attribute [local go_sem high] eqA32
def foghornref10_Asked.l0 : Nat → List (S32) → List (S32) → Int → Int → Option (Bool)
 | 0, _, _, _, _ => none
 | k + 1, x0, x1, x12, x13 => if x13 < x12 then (if 0 ≤ x13 then (if x13 < (x0.length : Int) then (if x13 < (x1.length : Int) then (if (!(((rd_T32 x0 x13).f0) == ((rd_T32 x1 x13).f0)) || (!((((rd_T32 x0 x13).f1).toList) == (((rd_T32 x1 x13).f1).toList)) || (!((((rd_T32 x0 x13).f2).toList) == (((rd_T32 x1 x13).f2).toList))))) = true then (some false) else (foghornref10_Asked.l0 k x0 x1 x12 (wrap64 (x13 + 1)))) else (none)) else (none)) else (none)) else (some true)
def foghornref10_Asked.f (k : Nat) (l0 : List (S32)) (l1 : List (S32)) : Option (Bool) := if (l0.length : Int) = (l1.length : Int) then (foghornref10_Asked.l0 k l0 l1 (l0.length : Int) 0) else (some false)
theorem foghornref10_Asked.mono_l : ∀ k, (∀ y0 y1 y2 y3, LeO (foghornref10_Asked.l0 k y0 y1 y2 y3) (foghornref10_Asked.l0 (k + 1) y0 y1 y2 y3))
 | 0 => fun _ _ _ _ r h => by simp [foghornref10_Asked.l0] at h
 | k + 1 => by
  have ih0 := foghornref10_Asked.mono_l k
  ·intro y0 y1 y2 y3
   unfold foghornref10_Asked.l0
   repeat' first
   | (with_reducible exact ih0 _ _ _ _)
   | (with_reducible exact LeO.refl _)
   | (with_reducible exact LeO.none _)
   | (with_reducible refine LeO.ite ?_ ?_)
   | (with_reducible refine LeO.bind ?_ (fun _ => ?_))
   | exact ih0 _ _ _ _
   | exact LeO.none _
   | refine LeO.ite ?_ ?_
   | refine LeO.bind ?_ (fun _ => ?_)
theorem foghornref10_Asked.mono : ∀ a0 a1 k, LeO (foghornref10_Asked.f k a0 a1) (foghornref10_Asked.f (k + 1) a0 a1) := by
 intro a0 a1 k
 have ih0 := foghornref10_Asked.mono_l k
 unfold foghornref10_Asked.f
 repeat' first
   | (with_reducible exact ih0 _ _ _ _)
   | (with_reducible exact LeO.refl _)
   | (with_reducible exact LeO.none _)
   | (with_reducible refine LeO.ite ?_ ?_)
   | (with_reducible refine LeO.bind ?_ (fun _ => ?_))
   | exact ih0 _ _ _ _
   | exact LeO.none _
   | refine LeO.ite ?_ ?_
   | refine LeO.bind ?_ (fun _ => ?_)
set_option maxHeartbeats 8000000 in
set_option maxRecDepth 100000 in
theorem foghornref10_Asked.calls (k : Nat) (A0 : Option Addr) (c0 : Nat) (l0 : List (S32)) (A1 : Option Addr) (c1 : Nat) (l1 : List (S32)) (r : Bool) (w : World) (hr0 : Kd.C k32 w A0 l0.length l0) (hc0 : l0.length ≤ c0) (hr1 : Kd.C k32 w A1 l1.length l1) (hc1 : l1.length ≤ c1) (h : foghornref10_Asked.f k l0 l1 = some r) :
  Calls Tryz.prog 58 #[.slice A0 l0.length c0, .slice A1 l1.length c1] w fun e w' => e = .returned (.bool r) ∧ Drawn0 w w' := by
 have hu32 := Tryz.underlying32
 have HR0 := aA hr0
 have HC0 := aA hc0
 clear hr0 hc0
 have HR1 := aA hr1
 have HC1 := aA hc1
 clear hr1 hc1
 have H : (if (l0.length : Int) = (l1.length : Int) then (foghornref10_Asked.l0 k l0 l1 (l0.length : Int) 0) else (some false)) = some r := h
 clear h
 by_cases c3 : (l0.length : Int) = (l1.length : Int)
 ·rw [if_pos c3] at H
  have c3b0 : ((l0.length : Int) == (l1.length : Int)) = true := beq_iff_eq.mpr c3
  have c3b1 : ((l0.length : Int) != (l1.length : Int)) = false := bne_eq_false_iff_eq.mpr c3
  have c3b2 : (l0.length == l1.length) = true := by first | simpa using c3 | (simp at c3 ⊢; omega)
  clear c3
  have H' := aA H
  clear H
  go_enter Tryz.func58, Tryz.ntmps58
  go_wp2
  repeat (go_quiet (fail); try go_wp2)
  go_loopg [13] k (fun kq v13 w' => ∃ (x13_1 : Int), v13 = .int .i64 x13_1 ∧ Aside0 (foghornref10_Asked.l0 kq l0 l1 (l0.length : Int) x13_1 = some r) ∧ Aside0 (kq ≤ k) ∧ Drawn0 w w')
  case atStart => exact ⟨(0), (by first | rfl | (simp; done) | (simp [*]; done)), H', ⟨Nat.le_refl _⟩, by repeat (first | exact Drawn0.refl _ | apply Drawn0.step)⟩
  case round =>
   clear H'
   try clear c1
   try clear p2
   try clear c3
   try clear c3b0
   try clear c3b1
   try clear c3b2
   obtain ⟨x13_1, rfl, HA, HK1, ⟨m1, rfl⟩⟩ := hrel
   cases gk with
   | zero => exact absurd HA.out (by simp [foghornref10_Asked.l0])
   | succ k1 =>
    have H := HA.out
    clear HA
    simp only [foghornref10_Asked.l0] at H
    by_cases c4 : x13_1 < (l0.length : Int)
    ·rw [if_pos c4] at H
     have c4b0 : decide (x13_1 < (l0.length : Int)) = true := decide_eq_true c4
     clear c4
     by_cases c5 : 0 ≤ x13_1
     ·rw [if_pos c5] at H
      have c5b0 : decide (0 ≤ x13_1) = true := decide_eq_true c5
      clear c5
      by_cases c6 : x13_1 < (l0.length : Int)
      ·rw [if_pos c6] at H
       have c6b0 : decide (x13_1 < (l0.length : Int)) = true := decide_eq_true c6
       clear c6
       by_cases c7 : x13_1 < (l1.length : Int)
       ·rw [if_pos c7] at H
        have c7b0 : decide (x13_1 < (l1.length : Int)) = true := decide_eq_true c7
        clear c7
        by_cases c8 : (!(((rd_T32 l0 x13_1).f0) == ((rd_T32 l1 x13_1).f0)) || (!((((rd_T32 l0 x13_1).f1).toList) == (((rd_T32 l1 x13_1).f1).toList)) || (!((((rd_T32 l0 x13_1).f2).toList) == (((rd_T32 l1 x13_1).f2).toList))))) = true
        ·rw [if_pos c8] at H
         have c8b0 : (!(((rd_T32 l0 x13_1).f0) == ((rd_T32 l1 x13_1).f0)) || (!((((rd_T32 l0 x13_1).f1).toList) == (((rd_T32 l1 x13_1).f1).toList)) || (!((((rd_T32 l0 x13_1).f2).toList) == (((rd_T32 l1 x13_1).f2).toList))))) = true := c8
         clear c8
         obtain rfl := Option.some.inj H
         have p321 : 0 ≤ (x13_1 : Int) := of_decide_eq_true (by first | (with_reducible assumption) | assumption)
         have q321 : x13_1 < (l0.length : Int) := of_decide_eq_true (by first | (with_reducible assumption) | assumption)
         obtain ⟨ad321, e321, hx321_0, hx321_1, hx321_2⟩ := at_T32 HR0.out x13_1 p321 q321
         cases e321
         replace p321 := eq_true p321
         replace q321 := eq_true q321
         have p322 : 0 ≤ (x13_1 : Int) := of_decide_eq_true (by first | (with_reducible assumption) | assumption)
         have q322 : x13_1 < (l1.length : Int) := of_decide_eq_true (by first | (with_reducible assumption) | assumption)
         obtain ⟨ad322, e322, hx322_0, hx322_1, hx322_2⟩ := at_T32 HR1.out x13_1 p322 q322
         cases e322
         replace p322 := eq_true p322
         replace q322 := eq_true q322
         go_wp2
         repeat (go_quiet (fail); try go_wp2)
         go_ret
         exact ⟨by first | rfl | (simp; done) | (simp [*]; done), by repeat (first | exact Drawn0.refl _ | apply Drawn0.step)⟩
        ·rw [if_neg c8] at H
         have c8b0 : (!(((rd_T32 l0 x13_1).f0) == ((rd_T32 l1 x13_1).f0)) || (!((((rd_T32 l0 x13_1).f1).toList) == (((rd_T32 l1 x13_1).f1).toList)) || (!((((rd_T32 l0 x13_1).f2).toList) == (((rd_T32 l1 x13_1).f2).toList))))) = false := by simpa using c8
         clear c8
         have H' := aA H
         clear H
         have p321 : 0 ≤ (x13_1 : Int) := of_decide_eq_true (by first | (with_reducible assumption) | assumption)
         have q321 : x13_1 < (l0.length : Int) := of_decide_eq_true (by first | (with_reducible assumption) | assumption)
         obtain ⟨ad321, e321, hx321_0, hx321_1, hx321_2⟩ := at_T32 HR0.out x13_1 p321 q321
         cases e321
         replace p321 := eq_true p321
         replace q321 := eq_true q321
         have p322 : 0 ≤ (x13_1 : Int) := of_decide_eq_true (by first | (with_reducible assumption) | assumption)
         have q322 : x13_1 < (l1.length : Int) := of_decide_eq_true (by first | (with_reducible assumption) | assumption)
         obtain ⟨ad322, e322, hx322_0, hx322_1, hx322_2⟩ := at_T32 HR1.out x13_1 p322 q322
         cases e322
         replace p322 := eq_true p322
         replace q322 := eq_true q322
         go_wp2
         repeat (go_quiet (fail); try go_wp2)
         go_roundg k1
         case measure => have := HK1.out; omega
         case rel => exact ⟨(wrap64 (x13_1 + 1)), (by first | rfl | (simp; done) | (simp [*]; done)), H', ⟨by have := HK1.out; omega⟩, by repeat (first | exact Drawn0.refl _ | apply Drawn0.step)⟩
       ·rw [if_neg c7] at H
        exact absurd H (by simp)
      ·rw [if_neg c6] at H
       exact absurd H (by simp)
     ·rw [if_neg c5] at H
      exact absurd H (by simp)
    ·rw [if_neg c4] at H
     have c4b0 : decide (x13_1 < (l0.length : Int)) = false := decide_eq_false c4
     clear c4
     obtain rfl := Option.some.inj H
     go_wp2
     repeat (go_quiet (fail); try go_wp2)
     go_ret
     exact ⟨by first | rfl | (simp; done) | (simp [*]; done), by repeat (first | exact Drawn0.refl _ | apply Drawn0.step)⟩
 ·rw [if_neg c3] at H
  have c3b0 : ((l0.length : Int) == (l1.length : Int)) = false := beq_eq_false_iff_ne.mpr c3
  have c3b1 : ((l0.length : Int) != (l1.length : Int)) = true := bne_iff_ne.mpr c3
  have c3b2 : (l0.length == l1.length) = false := by first | simpa using c3 | (simp at c3 ⊢; omega)
  obtain rfl := Option.some.inj H
  go_enter Tryz.func58, Tryz.ntmps58
  go_wp2
  repeat (go_quiet (fail); try go_wp2)
  go_ret
  exact ⟨by first | rfl | (simp; done) | (simp [*]; done), by repeat (first | exact Drawn0.refl _ | apply Drawn0.step)⟩
end Go.Proofs.YtjfknmlchdifjaaGreatDoorQ.P
namespace Go.Proofs.YtjfknmlchdifjaaGreatDoorQ.P
open Go.RowKit Go.Proofs.YtjfknmlchdifjaaGreatDoorW.PrintWords Go.Proofs.YtjfknmlchdifjaaGreatDoorW.PrintLast Go.Proofs.YtjfknmlchdifjaaGreatDoorW.PrintMore
attribute [local go_sem] max2_int min2_int max_two min_two max_three min_three max_four min_four
def foghornref12_Hushes.f (k : Nat) (a0_0 : Int) (a0_1 : Int) (l0_2 : List (S32)) (a1_0 : Int) (a1_1 : Int) (l1_2 : List (S32)) : Option (Bool) := if a0_0 = a1_0 then (if a0_1 = a1_1 then ((foghornref10_Asked.f k l0_2 l1_2).bind fun t325 => (some t325)) else (some false)) else (some false)
theorem foghornref12_Hushes.mono : ∀ a0 a1 a2 a3 a4 a5 k, LeO (foghornref12_Hushes.f k a0 a1 a2 a3 a4 a5) (foghornref12_Hushes.f (k + 1) a0 a1 a2 a3 a4 a5) := by
 intro a0 a1 a2 a3 a4 a5 k
 unfold foghornref12_Hushes.f
 repeat' first
   | (with_reducible exact foghornref10_Asked.mono _ _ _)
   | (with_reducible exact LeO.refl _)
   | (with_reducible exact LeO.none _)
   | (with_reducible refine LeO.ite ?_ ?_)
   | (with_reducible refine LeO.bind ?_ (fun _ => ?_))
   | exact foghornref10_Asked.mono _ _ _
   | exact LeO.none _
   | refine LeO.ite ?_ ?_
   | refine LeO.bind ?_ (fun _ => ?_)
set_option maxHeartbeats 8000000 in
set_option maxRecDepth 100000 in
theorem foghornref12_Hushes.calls (k : Nat) (a0_0 : Int) (a0_1 : Int) (A0_2 : Option Addr) (c0_2 : Nat) (l0_2 : List (S32)) (a1_0 : Int) (a1_1 : Int) (A1_2 : Option Addr) (c1_2 : Nat) (l1_2 : List (S32)) (r : Bool) (w : World) (hr0_2 : Kd.C k32 w A0_2 l0_2.length l0_2) (hc0_2 : l0_2.length ≤ c0_2) (hr1_2 : Kd.C k32 w A1_2 l1_2.length l1_2) (hc1_2 : l1_2.length ≤ c1_2) (h : foghornref12_Hushes.f k a0_0 a0_1 l0_2 a1_0 a1_1 l1_2 = some r) :
  Calls Tryz.prog 44 #[.agg #[.int .i64 a0_0, .int .i64 a0_1, .slice A0_2 l0_2.length c0_2], .agg #[.int .i64 a1_0, .int .i64 a1_1, .slice A1_2 l1_2.length c1_2]] w fun e w' => e = .returned (.bool r) ∧ Below w.heap.size w w' := by
 have hu25 := Tryz.underlying25
 have HR0_2 := aA hr0_2
 have HC0_2 := aA hc0_2
 clear hr0_2 hc0_2
 have HR1_2 := aA hr1_2
 have HC1_2 := aA hc1_2
 clear hr1_2 hc1_2
 have HB := aA (Below.refl w.heap.size w)
 have H : (if a0_0 = a1_0 then (if a0_1 = a1_1 then ((foghornref10_Asked.f k l0_2 l1_2).bind fun t325 => (some t325)) else (some false)) else (some false)) = some r := h
 clear h
 by_cases c3 : a0_0 = a1_0
 ·rw [if_pos c3] at H
  have c3b0 : (a0_0 == a1_0) = true := beq_iff_eq.mpr c3
  have c3b1 : (a0_0 != a1_0) = false := bne_eq_false_iff_eq.mpr c3
  clear c3
  by_cases c4 : a0_1 = a1_1
  ·rw [if_pos c4] at H
   have c4b0 : (a0_1 == a1_1) = true := beq_iff_eq.mpr c4
   have c4b1 : (a0_1 != a1_1) = false := bne_eq_false_iff_eq.mpr c4
   clear c4
   replace H := Option.bind_eq_some_iff.mp H
   obtain ⟨t325, A50, H⟩ := H
   have A5 := aA A50
   clear A50
   obtain rfl := Option.some.inj H
   go_enter Tryz.func44, Tryz.ntmps44
   go_wp2_with (first | ((with_reducible refine gate_dst (N := 2) rfl ?_); refine box_event ?hg (N := 2) ?hd (cs := #[.int .i64 a0_0, .int .i64 a0_1, .slice A0_2 l0_2.length c0_2]) (t := 25) ?hr ?_; (case hd => rfl); (case hg => rfl); (case hr => first | (go_simp; done) | (go_simp; rfl)); intro gb323 hg w6 hbox hb; have n0_ := aA (below_step mB hb); have n1_ := aA (hbox); have n2_ := aA ((bZ hg mB)); have n3_ := aA ((bZ hg mB)); clear HB; have HB := n0_; have BK323 := n1_; have GW323 := n2_; have GE323 := n3_; clear n0_ n1_ n2_ n3_ hb hbox hg) | ((with_reducible refine gate_dst (N := 3) rfl ?_); refine box_event ?hg (N := 3) ?hd (cs := #[.int .i64 a1_0, .int .i64 a1_1, .slice A1_2 l1_2.length c1_2]) (t := 25) ?hr ?_; (case hd => rfl); (case hg => rfl); (case hr => first | (go_simp; done) | (go_simp; rfl)); intro gb324 hg w7 hbox hb; have n0_ := aA (bB BK323.out hb); have n1_ := aA (below_step (mD1 GE323.out) hb); have n2_ := aA (hbox); have n3_ := aA ((bZ hg (mD1 GE323.out))); have n4_ := aA ((bZ hg (mD1 GE323.out))); have n5_ := aA ((bL hg BK323.out)); have n6_ := aA ((bG hg BK323.out)); clear BK323 HB; have BK323 := n0_; have HB := n1_; have BK324 := n2_; have GW324 := n3_; have GE324 := n4_; have NB323_324 := n5_; have NB324_323 := n6_; clear n0_ n1_ n2_ n3_ n4_ n5_ n6_ hb hbox hg; have hnb8 := NB323_324.out; have hnc8 := NB324_323.out; obtain ⟨hcz9_0, hcz9_1, hcz9_2⟩ := bC3 BK323.out; obtain ⟨hfz9_0, hfz9_1, hfz9_2⟩ := bF3 BK323.out; obtain ⟨hcz10_0, hcz10_1, hcz10_2⟩ := bC3 BK324.out; obtain ⟨hfz10_0, hfz10_1, hfz10_2⟩ := bF3 BK324.out) | (go_at_call 58; (with_reducible refine (foghornref10_Asked.calls k _ _ l0_2 _ _ l1_2 t325 _ ?side1 ?side2 ?side3 ?side4 A5.out).mono ?_); (case side1 => exact mC ((Kd.C_below HR0_2.out HB.out))); (case side2 => exact HC0_2.out); (case side3 => exact mC ((Kd.C_below HR1_2.out HB.out))); (case side4 => exact HC1_2.out); rintro e w' ⟨rfl, ⟨nd, rfl⟩⟩))
   go_ret
   exact ⟨by first | rfl | (simp [errW_none, errW_some] <;> rfl) | (simp [*, errW_none, errW_some] <;> rfl), by repeat (first | (with_reducible first | exact HB.out | apply below_alloc | apply pw_below_drewN | apply below_drew1 | refine below_set ?_ GE323.out | refine below_set ?_ GE324.out) | exact HB.out)⟩
  ·rw [if_neg c4] at H
   have c4b0 : (a0_1 == a1_1) = false := beq_eq_false_iff_ne.mpr c4
   have c4b1 : (a0_1 != a1_1) = true := bne_iff_ne.mpr c4
   obtain rfl := Option.some.inj H
   go_enter Tryz.func44, Tryz.ntmps44
   go_wp2_with (first | ((with_reducible refine gate_dst (N := 2) rfl ?_); refine box_event ?hg (N := 2) ?hd (cs := #[.int .i64 a0_0, .int .i64 a0_1, .slice A0_2 l0_2.length c0_2]) (t := 25) ?hr ?_; (case hd => rfl); (case hg => rfl); (case hr => first | (go_simp; done) | (go_simp; rfl)); intro gb323 hg w11 hbox hb; have n0_ := aA (below_step mB hb); have n1_ := aA (hbox); have n2_ := aA ((bZ hg mB)); have n3_ := aA ((bZ hg mB)); clear HB; have HB := n0_; have BK323 := n1_; have GW323 := n2_; have GE323 := n3_; clear n0_ n1_ n2_ n3_ hb hbox hg) | ((with_reducible refine gate_dst (N := 3) rfl ?_); refine box_event ?hg (N := 3) ?hd (cs := #[.int .i64 a1_0, .int .i64 a1_1, .slice A1_2 l1_2.length c1_2]) (t := 25) ?hr ?_; (case hd => rfl); (case hg => rfl); (case hr => first | (go_simp; done) | (go_simp; rfl)); intro gb324 hg w12 hbox hb; have n0_ := aA (bB BK323.out hb); have n1_ := aA (below_step (mD1 GE323.out) hb); have n2_ := aA (hbox); have n3_ := aA ((bZ hg (mD1 GE323.out))); have n4_ := aA ((bZ hg (mD1 GE323.out))); have n5_ := aA ((bL hg BK323.out)); have n6_ := aA ((bG hg BK323.out)); clear BK323 HB; have BK323 := n0_; have HB := n1_; have BK324 := n2_; have GW324 := n3_; have GE324 := n4_; have NB323_324 := n5_; have NB324_323 := n6_; clear n0_ n1_ n2_ n3_ n4_ n5_ n6_ hb hbox hg; have hnb13 := NB323_324.out; have hnc13 := NB324_323.out; obtain ⟨hcz14_0, hcz14_1, hcz14_2⟩ := bC3 BK323.out; obtain ⟨hfz14_0, hfz14_1, hfz14_2⟩ := bF3 BK323.out; obtain ⟨hcz15_0, hcz15_1, hcz15_2⟩ := bC3 BK324.out; obtain ⟨hfz15_0, hfz15_1, hfz15_2⟩ := bF3 BK324.out))
   go_ret
   exact ⟨by first | rfl | (simp [errW_none, errW_some] <;> rfl) | (simp [*, errW_none, errW_some] <;> rfl), by repeat (first | (with_reducible first | exact HB.out | apply below_alloc | apply pw_below_drewN | apply below_drew1 | refine below_set ?_ GE323.out | refine below_set ?_ GE324.out) | exact HB.out)⟩
 ·rw [if_neg c3] at H
  have c3b0 : (a0_0 == a1_0) = false := beq_eq_false_iff_ne.mpr c3
  have c3b1 : (a0_0 != a1_0) = true := bne_iff_ne.mpr c3
  obtain rfl := Option.some.inj H
  go_enter Tryz.func44, Tryz.ntmps44
  go_wp2_with (first | ((with_reducible refine gate_dst (N := 2) rfl ?_); refine box_event ?hg (N := 2) ?hd (cs := #[.int .i64 a0_0, .int .i64 a0_1, .slice A0_2 l0_2.length c0_2]) (t := 25) ?hr ?_; (case hd => rfl); (case hg => rfl); (case hr => first | (go_simp; done) | (go_simp; rfl)); intro gb323 hg w16 hbox hb; have n0_ := aA (below_step mB hb); have n1_ := aA (hbox); have n2_ := aA ((bZ hg mB)); have n3_ := aA ((bZ hg mB)); clear HB; have HB := n0_; have BK323 := n1_; have GW323 := n2_; have GE323 := n3_; clear n0_ n1_ n2_ n3_ hb hbox hg) | ((with_reducible refine gate_dst (N := 3) rfl ?_); refine box_event ?hg (N := 3) ?hd (cs := #[.int .i64 a1_0, .int .i64 a1_1, .slice A1_2 l1_2.length c1_2]) (t := 25) ?hr ?_; (case hd => rfl); (case hg => rfl); (case hr => first | (go_simp; done) | (go_simp; rfl)); intro gb324 hg w17 hbox hb; have n0_ := aA (bB BK323.out hb); have n1_ := aA (below_step (mD1 GE323.out) hb); have n2_ := aA (hbox); have n3_ := aA ((bZ hg (mD1 GE323.out))); have n4_ := aA ((bZ hg (mD1 GE323.out))); have n5_ := aA ((bL hg BK323.out)); have n6_ := aA ((bG hg BK323.out)); clear BK323 HB; have BK323 := n0_; have HB := n1_; have BK324 := n2_; have GW324 := n3_; have GE324 := n4_; have NB323_324 := n5_; have NB324_323 := n6_; clear n0_ n1_ n2_ n3_ n4_ n5_ n6_ hb hbox hg; have hnb18 := NB323_324.out; have hnc18 := NB324_323.out; obtain ⟨hcz19_0, hcz19_1, hcz19_2⟩ := bC3 BK323.out; obtain ⟨hfz19_0, hfz19_1, hfz19_2⟩ := bF3 BK323.out; obtain ⟨hcz20_0, hcz20_1, hcz20_2⟩ := bC3 BK324.out; obtain ⟨hfz20_0, hfz20_1, hfz20_2⟩ := bF3 BK324.out))
  go_ret
  exact ⟨by first | rfl | (simp [errW_none, errW_some] <;> rfl) | (simp [*, errW_none, errW_some] <;> rfl), by repeat (first | (with_reducible first | exact HB.out | apply below_alloc | apply pw_below_drewN | apply below_drew1 | refine below_set ?_ GE323.out | refine below_set ?_ GE324.out) | exact HB.out)⟩
end Go.Proofs.YtjfknmlchdifjaaGreatDoorQ.P
namespace Go.Proofs.YtjfknmlchdifjaaGreatDoorQ.P
open Go.RowKit Go.Proofs.YtjfknmlchdifjaaGreatDoorW.PrintWords Go.Proofs.YtjfknmlchdifjaaGreatDoorW.PrintLast Go.Proofs.YtjfknmlchdifjaaGreatDoorW.PrintMore
attribute [local go_sem] max2_int min2_int max_two min_two max_three min_three max_four min_four
def foghornref12_Same.f (k : Nat) (a0_0 : Int) (l0_1 : List (S52)) (a0_2 : Int) (a0_3 : Int) (l0_4 : List (S32)) (a1_0 : Int) (l1_1 : List (S52)) (a1_2 : Int) (a1_3 : Int) (l1_4 : List (S32)) : Option (Bool) := if a0_0 = a1_0 then ((foghornref10_Same.f l0_1 l1_1).bind fun t328 => (if t328 = true then ((foghornref12_Hushes.f k a0_2 a0_3 l0_4 a1_2 a1_3 l1_4).bind fun t329 => (some t329)) else (some false))) else (some false)
theorem foghornref12_Same.mono : ∀ a0 a1 a2 a3 a4 a5 a6 a7 a8 a9 k, LeO (foghornref12_Same.f k a0 a1 a2 a3 a4 a5 a6 a7 a8 a9) (foghornref12_Same.f (k + 1) a0 a1 a2 a3 a4 a5 a6 a7 a8 a9) := by
 intro a0 a1 a2 a3 a4 a5 a6 a7 a8 a9 k
 unfold foghornref12_Same.f
 repeat' first
   | (with_reducible exact foghornref12_Hushes.mono _ _ _ _ _ _ _)
   | (with_reducible exact LeO.refl _)
   | (with_reducible exact LeO.none _)
   | (with_reducible refine LeO.ite ?_ ?_)
   | (with_reducible refine LeO.bind ?_ (fun _ => ?_))
   | exact foghornref12_Hushes.mono _ _ _ _ _ _ _
   | exact LeO.none _
   | refine LeO.ite ?_ ?_
   | refine LeO.bind ?_ (fun _ => ?_)
set_option maxHeartbeats 8000000 in
set_option maxRecDepth 100000 in
theorem foghornref12_Same.calls (k : Nat) (a0_0 : Int) (A0_1 : Option Addr) (c0_1 : Nat) (l0_1 : List (S52)) (a0_2 : Int) (a0_3 : Int) (A0_4 : Option Addr) (c0_4 : Nat) (l0_4 : List (S32)) (a1_0 : Int) (A1_1 : Option Addr) (c1_1 : Nat) (l1_1 : List (S52)) (a1_2 : Int) (a1_3 : Int) (A1_4 : Option Addr) (c1_4 : Nat) (l1_4 : List (S32)) (r : Bool) (w : World) (hr0_1 : Kd.C k52 w A0_1 l0_1.length l0_1) (hc0_1 : l0_1.length ≤ c0_1) (hr0_4 : Kd.C k32 w A0_4 l0_4.length l0_4) (hc0_4 : l0_4.length ≤ c0_4) (hr1_1 : Kd.C k52 w A1_1 l1_1.length l1_1) (hc1_1 : l1_1.length ≤ c1_1) (hr1_4 : Kd.C k32 w A1_4 l1_4.length l1_4) (hc1_4 : l1_4.length ≤ c1_4) (h : foghornref12_Same.f k a0_0 l0_1 a0_2 a0_3 l0_4 a1_0 l1_1 a1_2 a1_3 l1_4 = some r) :
  Calls Tryz.prog 14 #[.agg #[.int .i64 a0_0, .slice A0_1 l0_1.length c0_1, .int .i64 a0_2, .int .i64 a0_3, .slice A0_4 l0_4.length c0_4], .agg #[.int .i64 a1_0, .slice A1_1 l1_1.length c1_1, .int .i64 a1_2, .int .i64 a1_3, .slice A1_4 l1_4.length c1_4]] w fun e w' => e = .returned (.bool r) ∧ Below w.heap.size w w' := by
 have hu27 := Tryz.underlying27
 have hu25 := Tryz.underlying25
 have HR0_1 := aA hr0_1
 have HC0_1 := aA hc0_1
 clear hr0_1 hc0_1
 have HR0_4 := aA hr0_4
 have HC0_4 := aA hc0_4
 clear hr0_4 hc0_4
 have HR1_1 := aA hr1_1
 have HC1_1 := aA hc1_1
 clear hr1_1 hc1_1
 have HR1_4 := aA hr1_4
 have HC1_4 := aA hc1_4
 clear hr1_4 hc1_4
 have HB := aA (Below.refl w.heap.size w)
 have H : (if a0_0 = a1_0 then ((foghornref10_Same.f l0_1 l1_1).bind fun t328 => (if t328 = true then ((foghornref12_Hushes.f k a0_2 a0_3 l0_4 a1_2 a1_3 l1_4).bind fun t329 => (some t329)) else (some false))) else (some false)) = some r := h
 clear h
 by_cases c3 : a0_0 = a1_0
 ·rw [if_pos c3] at H
  have c3b0 : (a0_0 == a1_0) = true := beq_iff_eq.mpr c3
  have c3b1 : (a0_0 != a1_0) = false := bne_eq_false_iff_eq.mpr c3
  clear c3
  replace H := Option.bind_eq_some_iff.mp H
  obtain ⟨t328, A40, H⟩ := H
  have A4 := aA A40
  clear A40
  by_cases c5 : t328 = true
  ·subst c5
   have H1 : ((foghornref12_Hushes.f k a0_2 a0_3 l0_4 a1_2 a1_3 l1_4).bind fun t329 => (some t329)) = some r := by rw [if_pos rfl] at H; exact H
   clear H
   have H := H1
   clear H1
   replace H := Option.bind_eq_some_iff.mp H
   obtain ⟨t329, A60, H⟩ := H
   have A6 := aA A60
   clear A60
   obtain rfl := Option.some.inj H
   go_enter Tryz.func14, Tryz.ntmps14
   go_wp2_with (first | ((with_reducible refine gate_dst (N := 2) rfl ?_); refine box_event ?hg (N := 2) ?hd (cs := #[.int .i64 a0_0, .slice A0_1 l0_1.length c0_1, .int .i64 a0_2, .int .i64 a0_3, .slice A0_4 l0_4.length c0_4]) (t := 27) ?hr ?_; (case hd => rfl); (case hg => rfl); (case hr => first | (go_simp; done) | (go_simp; rfl)); intro gb326 hg w7 hbox hb; have n0_ := aA (below_step mB hb); have n1_ := aA (hbox); have n2_ := aA ((bZ hg mB)); have n3_ := aA ((bZ hg mB)); clear HB; have HB := n0_; have BK326 := n1_; have GW326 := n2_; have GE326 := n3_; clear n0_ n1_ n2_ n3_ hb hbox hg) | ((with_reducible refine gate_dst (N := 3) rfl ?_); refine box_event ?hg (N := 3) ?hd (cs := #[.int .i64 a1_0, .slice A1_1 l1_1.length c1_1, .int .i64 a1_2, .int .i64 a1_3, .slice A1_4 l1_4.length c1_4]) (t := 27) ?hr ?_; (case hd => rfl); (case hg => rfl); (case hr => first | (go_simp; done) | (go_simp; rfl)); intro gb327 hg w8 hbox hb; have n0_ := aA (bB BK326.out hb); have n1_ := aA (below_step (mD1 GE326.out) hb); have n2_ := aA (hbox); have n3_ := aA ((bZ hg (mD1 GE326.out))); have n4_ := aA ((bZ hg (mD1 GE326.out))); have n5_ := aA ((bL hg BK326.out)); have n6_ := aA ((bG hg BK326.out)); clear BK326 HB; have BK326 := n0_; have HB := n1_; have BK327 := n2_; have GW327 := n3_; have GE327 := n4_; have NB326_327 := n5_; have NB327_326 := n6_; clear n0_ n1_ n2_ n3_ n4_ n5_ n6_ hb hbox hg; have hnb9 := NB326_327.out; have hnc9 := NB327_326.out; obtain ⟨hcz10_0, hcz10_1, hcz10_2, hcz10_3, hcz10_4⟩ := bC5 BK326.out; obtain ⟨hfz10_0, hfz10_1, hfz10_2, hfz10_3, hfz10_4⟩ := bF5 BK326.out; obtain ⟨hcz11_0, hcz11_1, hcz11_2, hcz11_3, hcz11_4⟩ := bC5 BK327.out; obtain ⟨hfz11_0, hfz11_1, hfz11_2, hfz11_3, hfz11_4⟩ := bF5 BK327.out) | (go_at_call 43; (with_reducible refine (foghornref10_Same.calls _ _ l0_1 _ _ l1_1 true _ ?side1 ?side2 ?side3 ?side4 A4.out).mono ?_); (case side1 => exact mC ((Kd.C_below HR0_1.out HB.out))); (case side2 => exact HC0_1.out); (case side3 => exact mC ((Kd.C_below HR1_1.out HB.out))); (case side4 => exact HC1_1.out); rintro e w12 ⟨rfl, hb⟩; have n0_ := aA (bB BK326.out hb); have n1_ := aA (bB BK327.out hb); have n2_ := aA (below_step (mD2 GE326.out GE327.out) hb); clear BK326 BK327 HB; have BK326 := n0_; have BK327 := n1_; have HB := n2_; clear n0_ n1_ n2_; (try clear hb); (try clear hb2); (try clear hk); (try clear hi); obtain ⟨hcz13_0, hcz13_1, hcz13_2, hcz13_3, hcz13_4⟩ := bC5 BK326.out; obtain ⟨hfz13_0, hfz13_1, hfz13_2, hfz13_3, hfz13_4⟩ := bF5 BK326.out; obtain ⟨hcz14_0, hcz14_1, hcz14_2, hcz14_3, hcz14_4⟩ := bC5 BK327.out; obtain ⟨hfz14_0, hfz14_1, hfz14_2, hfz14_3, hfz14_4⟩ := bF5 BK327.out) | (go_at_call 44; (with_reducible refine (foghornref12_Hushes.calls k a0_2 a0_3 _ _ l0_4 a1_2 a1_3 _ _ l1_4 t329 _ ?side1 ?side2 ?side3 ?side4 A6.out).mono ?_); (case side1 => exact mC ((Kd.C_below HR0_4.out HB.out))); (case side2 => exact HC0_4.out); (case side3 => exact mC ((Kd.C_below HR1_4.out HB.out))); (case side4 => exact HC1_4.out); rintro e w15 ⟨rfl, hb⟩; have n0_ := aA (bB BK326.out hb); have n1_ := aA (bB BK327.out hb); have n2_ := aA (below_step (mD2 GE326.out GE327.out) hb); clear BK326 BK327 HB; have BK326 := n0_; have BK327 := n1_; have HB := n2_; clear n0_ n1_ n2_; (try clear hb); (try clear hb2); (try clear hk); (try clear hi)))
   go_ret
   exact ⟨by first | rfl | (simp [errW_none, errW_some] <;> rfl) | (simp [*, errW_none, errW_some] <;> rfl), by repeat (first | (with_reducible first | exact HB.out | apply below_alloc | apply pw_below_drewN | apply below_drew1 | refine below_set ?_ GE326.out | refine below_set ?_ GE327.out) | exact HB.out)⟩
  ·replace c5 := Bool.eq_false_iff.mpr c5
   subst c5
   have H1 : (some false) = some r := by rw [if_neg (show ¬ (false = true) by decide)] at H; exact H
   clear H
   have H := H1
   clear H1
   obtain rfl := Option.some.inj H
   go_enter Tryz.func14, Tryz.ntmps14
   go_wp2_with (first | ((with_reducible refine gate_dst (N := 2) rfl ?_); refine box_event ?hg (N := 2) ?hd (cs := #[.int .i64 a0_0, .slice A0_1 l0_1.length c0_1, .int .i64 a0_2, .int .i64 a0_3, .slice A0_4 l0_4.length c0_4]) (t := 27) ?hr ?_; (case hd => rfl); (case hg => rfl); (case hr => first | (go_simp; done) | (go_simp; rfl)); intro gb326 hg w16 hbox hb; have n0_ := aA (below_step mB hb); have n1_ := aA (hbox); have n2_ := aA ((bZ hg mB)); have n3_ := aA ((bZ hg mB)); clear HB; have HB := n0_; have BK326 := n1_; have GW326 := n2_; have GE326 := n3_; clear n0_ n1_ n2_ n3_ hb hbox hg) | ((with_reducible refine gate_dst (N := 3) rfl ?_); refine box_event ?hg (N := 3) ?hd (cs := #[.int .i64 a1_0, .slice A1_1 l1_1.length c1_1, .int .i64 a1_2, .int .i64 a1_3, .slice A1_4 l1_4.length c1_4]) (t := 27) ?hr ?_; (case hd => rfl); (case hg => rfl); (case hr => first | (go_simp; done) | (go_simp; rfl)); intro gb327 hg w17 hbox hb; have n0_ := aA (bB BK326.out hb); have n1_ := aA (below_step (mD1 GE326.out) hb); have n2_ := aA (hbox); have n3_ := aA ((bZ hg (mD1 GE326.out))); have n4_ := aA ((bZ hg (mD1 GE326.out))); have n5_ := aA ((bL hg BK326.out)); have n6_ := aA ((bG hg BK326.out)); clear BK326 HB; have BK326 := n0_; have HB := n1_; have BK327 := n2_; have GW327 := n3_; have GE327 := n4_; have NB326_327 := n5_; have NB327_326 := n6_; clear n0_ n1_ n2_ n3_ n4_ n5_ n6_ hb hbox hg; have hnb18 := NB326_327.out; have hnc18 := NB327_326.out; obtain ⟨hcz19_0, hcz19_1, hcz19_2, hcz19_3, hcz19_4⟩ := bC5 BK326.out; obtain ⟨hfz19_0, hfz19_1, hfz19_2, hfz19_3, hfz19_4⟩ := bF5 BK326.out; obtain ⟨hcz20_0, hcz20_1, hcz20_2, hcz20_3, hcz20_4⟩ := bC5 BK327.out; obtain ⟨hfz20_0, hfz20_1, hfz20_2, hfz20_3, hfz20_4⟩ := bF5 BK327.out) | (go_at_call 43; (with_reducible refine (foghornref10_Same.calls _ _ l0_1 _ _ l1_1 false _ ?side1 ?side2 ?side3 ?side4 A4.out).mono ?_); (case side1 => exact mC ((Kd.C_below HR0_1.out HB.out))); (case side2 => exact HC0_1.out); (case side3 => exact mC ((Kd.C_below HR1_1.out HB.out))); (case side4 => exact HC1_1.out); rintro e w21 ⟨rfl, hb⟩; have n0_ := aA (bB BK326.out hb); have n1_ := aA (bB BK327.out hb); have n2_ := aA (below_step (mD2 GE326.out GE327.out) hb); clear BK326 BK327 HB; have BK326 := n0_; have BK327 := n1_; have HB := n2_; clear n0_ n1_ n2_; (try clear hb); (try clear hb2); (try clear hk); (try clear hi)))
   go_ret
   exact ⟨by first | rfl | (simp [errW_none, errW_some] <;> rfl) | (simp [*, errW_none, errW_some] <;> rfl), by repeat (first | (with_reducible first | exact HB.out | apply below_alloc | apply pw_below_drewN | apply below_drew1 | refine below_set ?_ GE326.out | refine below_set ?_ GE327.out) | exact HB.out)⟩
 ·rw [if_neg c3] at H
  have c3b0 : (a0_0 == a1_0) = false := beq_eq_false_iff_ne.mpr c3
  have c3b1 : (a0_0 != a1_0) = true := bne_iff_ne.mpr c3
  obtain rfl := Option.some.inj H
  go_enter Tryz.func14, Tryz.ntmps14
  go_wp2_with (first | ((with_reducible refine gate_dst (N := 2) rfl ?_); refine box_event ?hg (N := 2) ?hd (cs := #[.int .i64 a0_0, .slice A0_1 l0_1.length c0_1, .int .i64 a0_2, .int .i64 a0_3, .slice A0_4 l0_4.length c0_4]) (t := 27) ?hr ?_; (case hd => rfl); (case hg => rfl); (case hr => first | (go_simp; done) | (go_simp; rfl)); intro gb326 hg w22 hbox hb; have n0_ := aA (below_step mB hb); have n1_ := aA (hbox); have n2_ := aA ((bZ hg mB)); have n3_ := aA ((bZ hg mB)); clear HB; have HB := n0_; have BK326 := n1_; have GW326 := n2_; have GE326 := n3_; clear n0_ n1_ n2_ n3_ hb hbox hg) | ((with_reducible refine gate_dst (N := 3) rfl ?_); refine box_event ?hg (N := 3) ?hd (cs := #[.int .i64 a1_0, .slice A1_1 l1_1.length c1_1, .int .i64 a1_2, .int .i64 a1_3, .slice A1_4 l1_4.length c1_4]) (t := 27) ?hr ?_; (case hd => rfl); (case hg => rfl); (case hr => first | (go_simp; done) | (go_simp; rfl)); intro gb327 hg w23 hbox hb; have n0_ := aA (bB BK326.out hb); have n1_ := aA (below_step (mD1 GE326.out) hb); have n2_ := aA (hbox); have n3_ := aA ((bZ hg (mD1 GE326.out))); have n4_ := aA ((bZ hg (mD1 GE326.out))); have n5_ := aA ((bL hg BK326.out)); have n6_ := aA ((bG hg BK326.out)); clear BK326 HB; have BK326 := n0_; have HB := n1_; have BK327 := n2_; have GW327 := n3_; have GE327 := n4_; have NB326_327 := n5_; have NB327_326 := n6_; clear n0_ n1_ n2_ n3_ n4_ n5_ n6_ hb hbox hg; have hnb24 := NB326_327.out; have hnc24 := NB327_326.out; obtain ⟨hcz25_0, hcz25_1, hcz25_2, hcz25_3, hcz25_4⟩ := bC5 BK326.out; obtain ⟨hfz25_0, hfz25_1, hfz25_2, hfz25_3, hfz25_4⟩ := bF5 BK326.out; obtain ⟨hcz26_0, hcz26_1, hcz26_2, hcz26_3, hcz26_4⟩ := bC5 BK327.out; obtain ⟨hfz26_0, hfz26_1, hfz26_2, hfz26_3, hfz26_4⟩ := bF5 BK327.out))
  go_ret
  exact ⟨by first | rfl | (simp [errW_none, errW_some] <;> rfl) | (simp [*, errW_none, errW_some] <;> rfl), by repeat (first | (with_reducible first | exact HB.out | apply below_alloc | apply pw_below_drewN | apply below_drew1 | refine below_set ?_ GE326.out | refine below_set ?_ GE327.out) | exact HB.out)⟩
end Go.Proofs.YtjfknmlchdifjaaGreatDoorQ.P
