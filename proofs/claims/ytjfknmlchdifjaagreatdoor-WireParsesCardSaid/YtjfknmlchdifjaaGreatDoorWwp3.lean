/- Part 3 of a proof: contracts and plain laws of what the statement reaches. No condition. -/
import Derived.Test.YtjfknmlchdifjaaGreatDoorWwp1
import Derived.Test.YtjfknmlchdifjaaGreatDoorWwp2
set_option linter.unusedVariables false
set_option linter.unusedSimpArgs false
namespace Go.Proofs.YtjfknmlchdifjaaGreatDoorQ.P
open Go.RowKit Go.Proofs.YtjfknmlchdifjaaGreatDoorW.PrintWords Go.Proofs.YtjfknmlchdifjaaGreatDoorW.PrintLast Go.Proofs.YtjfknmlchdifjaaGreatDoorW.PrintMore
attribute [local go_sem] max2_int min2_int max_two min_two max_three min_three max_four min_four
def foghornlaw12_alive.f (k : Nat)  : Option (Bool) := (wire_Parse.f k (⟨#[104, 117, 115, 104, 32, 53, 32, 57, 32, 97, 94, 119, 101, 32, 122, 63]⟩ : ByteArray)).bind fun bt330 => (if bt330.2.2.2.2.2 = 0 then (if bt330.1 = 2 then (if bt330.2.2.2.1 = 9 then (if (bt330.2.2.2.2.1.length : Int) = 2 then (if 0 < (bt330.2.2.2.2.1.length : Int) then (some (((rd_T32 bt330.2.2.2.2.1 0).f2).toList == ([119, 101] : List UInt8))) else (none)) else (some false)) else (some false)) else (some false)) else (some false))
theorem foghornlaw12_alive.mono : ∀ k, LeO (foghornlaw12_alive.f k ) (foghornlaw12_alive.f (k + 1) ) := by
 intro  k
 unfold foghornlaw12_alive.f
 repeat' first
   | (with_reducible exact wire_Parse.mono _ _)
   | (with_reducible exact LeO.refl _)
   | (with_reducible exact LeO.none _)
   | (with_reducible refine LeO.ite ?_ ?_)
   | (with_reducible refine LeO.bind ?_ (fun _ => ?_))
   | exact wire_Parse.mono _ _
   | exact LeO.none _
   | refine LeO.ite ?_ ?_
   | refine LeO.bind ?_ (fun _ => ?_)
set_option maxHeartbeats 8000000 in
set_option maxRecDepth 100000 in
theorem foghornlaw12_alive.callsT (k : Nat)  (r : Bool) (w : World) (hG : GOK w) (h : foghornlaw12_alive.f k  = some r) (hrt_ : r = true) :
  Calls Tryz.prog 15 #[] w fun e w' => e = .returned (.bool r) ∧ Below w.heap.size w w' := by
 have hu27 := Tryz.underlying27
 have HG := aA hG
 clear hG
 have HB := aA (Below.refl w.heap.size w)
 have H : ((wire_Parse.f k (⟨#[104, 117, 115, 104, 32, 53, 32, 57, 32, 97, 94, 119, 101, 32, 122, 63]⟩ : ByteArray)).bind fun bt330 => (if bt330.2.2.2.2.2 = 0 then (if bt330.1 = 2 then (if bt330.2.2.2.1 = 9 then (if (bt330.2.2.2.2.1.length : Int) = 2 then (if 0 < (bt330.2.2.2.2.1.length : Int) then (some (((rd_T32 bt330.2.2.2.2.1 0).f2).toList == ([119, 101] : List UInt8))) else (none)) else (some false)) else (some false)) else (some false)) else (some false))) = some r := h
 clear h
 replace H := Option.bind_eq_some_iff.mp H
 obtain ⟨⟨t330, t331, t334, t335, t336, t339⟩, A10, H⟩ := H
 have A1 := aA A10
 clear A10
 by_cases c2 : t339 = 0
 ·rw [if_pos c2] at H
  have c2b0 : (t339 == 0) = true := beq_iff_eq.mpr c2
  have c2b1 : (t339 != 0) = false := bne_eq_false_iff_eq.mpr c2
  clear c2
  by_cases c3 : t330 = 2
  ·rw [if_pos c3] at H
   have c3b0 : (t330 == 2) = true := beq_iff_eq.mpr c3
   have c3b1 : (t330 != 2) = false := bne_eq_false_iff_eq.mpr c3
   clear c3
   by_cases c4 : t335 = 9
   ·rw [if_pos c4] at H
    have c4b0 : (t335 == 9) = true := beq_iff_eq.mpr c4
    have c4b1 : (t335 != 9) = false := bne_eq_false_iff_eq.mpr c4
    clear c4
    by_cases c5 : (t336.length : Int) = 2
    ·rw [if_pos c5] at H
     have c5b0 : ((t336.length : Int) == 2) = true := beq_iff_eq.mpr c5
     have c5b1 : ((t336.length : Int) != 2) = false := bne_eq_false_iff_eq.mpr c5
     clear c5
     by_cases c6 : 0 < (t336.length : Int)
     ·rw [if_pos c6] at H
      have c6b0 : decide (0 < (t336.length : Int)) = true := decide_eq_true c6
      have c6b1 : decide (0 < t336.length) = true := decide_eq_true (by omega)
      clear c6
      obtain rfl := Option.some.inj H
      go_enter Tryz.func15, Tryz.ntmps15
      go_wp2_with (first | ((with_reducible refine gate_callee (f := 10) rfl ?_); refine goesL_ (some 4) rfl rfl Tryz.func10 (by kernel_rfl) rfl #[.string (⟨#[104, 117, 115, 104, 32, 53, 32, 57, 32, 97, 94, 119, 101, 32, 122, 63]⟩ : ByteArray)] rfl mS ?_; (with_reducible refine (wire_Parse.calls k (⟨#[104, 117, 115, 104, 32, 53, 32, 57, 32, 97, 94, 119, 101, 32, 122, 63]⟩ : ByteArray) t330 t331 t334 t335 t336 t339 _ ?side1 A1.out).mono ?_); (case side1 => exact gok_below HG.out mB); rintro e w7 ⟨v332, v337, rfl, ho0, ho1, hb⟩; refine ⟨_, rfl, ?_⟩; have n0_ := aA (Kd.R_lower ho0 (below_size mB)); have n1_ := aA (Kd.R_lower ho1 (below_size mB)); have n2_ := aA (below_step mB hb); clear HB; have HO333 := n0_; have HO338 := n1_; have HB := n2_; clear n0_ n1_ n2_; (try clear hb); (try clear hb2); (try clear hk); (try clear hi); (try clear ho0); (try clear ho1)) | ((with_reducible refine gate_dst (N := 1) rfl ?_); (try (refine gate_guard (by rfl) ?_; dsimp only)); refine box_event ?hg (N := 1) ?hd (cs := #[.int .i64 0, .slice none 0 0, .int .i64 0, .int .i64 0, .slice none 0 0]) (t := 27) ?hr ?_; (case hd => rfl); (case hg => rfl); (case hr => first | (go_simp; done) | (go_simp; rfl)); intro gb340 hg w8 hbox hb; have n0_ := aA (Kd.R_below (mR HO333.out) hb); have n1_ := aA (Kd.R_below (mR HO338.out) hb); have n2_ := aA (below_step mB hb); have n3_ := aA (hbox); have n4_ := aA ((bZ hg mB)); have n5_ := aA ((bZ hg mB)); clear HO333 HO338 HB; have HO333 := n0_; have HO338 := n1_; have HB := n2_; have BK340 := n3_; have GW340 := n4_; have GE340 := n5_; clear n0_ n1_ n2_ n3_ n4_ n5_ hb hbox hg; obtain ⟨hcz9_0, hcz9_1, hcz9_2, hcz9_3, hcz9_4⟩ := bC5 BK340.out; obtain ⟨hfz9_0, hfz9_1, hfz9_2, hfz9_3, hfz9_4⟩ := bF5 BK340.out; obtain ⟨Ao10, co10, eo10⟩ := Kd.R_slice HO333.out; subst eo10; obtain ⟨Ao11, co11, eo11⟩ := Kd.R_slice HO338.out; subst eo11; have p341 : 0 ≤ (0 : Int) := (by omega); have q341 : 0 < (t336.length : Int) := of_decide_eq_true (by first | (with_reducible assumption) | assumption); obtain ⟨ad341, e341, hx341_0, hx341_1, hx341_2⟩ := at_T32 (Kd.R_reads' HO338.out).2.2 0 p341 q341; cases e341; have qi341 : (0 < t336.length) = True := eq_true (by omega); (try rw [show ((0 : Int)).toNat = 0 from rfl] at hx341_0); (try rw [show 0 * 3 = 0 from rfl] at hx341_0); (try rw [Addr.add_zero'] at hx341_0); (try rw [show ((0 : Int)).toNat = 0 from rfl] at hx341_1); (try rw [show 0 * 3 = 0 from rfl] at hx341_1); (try rw [Addr.add_zero'] at hx341_1); (try rw [show ((0 : Int)).toNat = 0 from rfl] at hx341_2); (try rw [show 0 * 3 = 0 from rfl] at hx341_2); (try rw [Addr.add_zero'] at hx341_2); have hn341_0 : ad341.block ≠ gb340 := Kd.own_blk (Kd.R_ne HO338.out BK340.out (by decide)); have hn341_1 : ad341.block ≠ gb340 := Kd.own_blk (Kd.R_ne HO338.out BK340.out (by decide)); have hn341_2 : ad341.block ≠ gb340 := Kd.own_blk (Kd.R_ne HO338.out BK340.out (by decide)); have hn341_3 : ad341.block ≠ gb340 := Kd.own_blk (Kd.R_ne HO338.out BK340.out (by decide)); have hn341_4 : ad341.block ≠ gb340 := Kd.own_blk (Kd.R_ne HO338.out BK340.out (by decide)); replace hx341_0 := (cell_far (p := ⟨gb340, 0, none⟩) (by first | (rw [add_block]; exact hn341_0) | (show (Addr.add _ _).block ≠ _; rw [add_block]; exact hn341_0) | exact hn341_0) (.int .i64 t330)).trans hx341_0; replace hx341_1 := (cell_far (p := ⟨gb340, 0, none⟩) (by first | (rw [add_block]; exact hn341_0) | (show (Addr.add _ _).block ≠ _; rw [add_block]; exact hn341_0) | exact hn341_0) (.int .i64 t330)).trans hx341_1; replace hx341_2 := (cell_far (p := ⟨gb340, 0, none⟩) (by first | (rw [add_block]; exact hn341_0) | (show (Addr.add _ _).block ≠ _; rw [add_block]; exact hn341_0) | exact hn341_0) (.int .i64 t330)).trans hx341_2; replace hx341_0 := (cell_far (p := ⟨gb340, 1, none⟩) (by first | (rw [add_block]; exact hn341_1) | (show (Addr.add _ _).block ≠ _; rw [add_block]; exact hn341_1) | exact hn341_1) (.slice Ao10 t331.length co10)).trans hx341_0; replace hx341_1 := (cell_far (p := ⟨gb340, 1, none⟩) (by first | (rw [add_block]; exact hn341_1) | (show (Addr.add _ _).block ≠ _; rw [add_block]; exact hn341_1) | exact hn341_1) (.slice Ao10 t331.length co10)).trans hx341_1; replace hx341_2 := (cell_far (p := ⟨gb340, 1, none⟩) (by first | (rw [add_block]; exact hn341_1) | (show (Addr.add _ _).block ≠ _; rw [add_block]; exact hn341_1) | exact hn341_1) (.slice Ao10 t331.length co10)).trans hx341_2; replace hx341_0 := (cell_far (p := ⟨gb340, 2, none⟩) (by first | (rw [add_block]; exact hn341_2) | (show (Addr.add _ _).block ≠ _; rw [add_block]; exact hn341_2) | exact hn341_2) (.int .i64 t334)).trans hx341_0; replace hx341_1 := (cell_far (p := ⟨gb340, 2, none⟩) (by first | (rw [add_block]; exact hn341_2) | (show (Addr.add _ _).block ≠ _; rw [add_block]; exact hn341_2) | exact hn341_2) (.int .i64 t334)).trans hx341_1; replace hx341_2 := (cell_far (p := ⟨gb340, 2, none⟩) (by first | (rw [add_block]; exact hn341_2) | (show (Addr.add _ _).block ≠ _; rw [add_block]; exact hn341_2) | exact hn341_2) (.int .i64 t334)).trans hx341_2; replace hx341_0 := (cell_far (p := ⟨gb340, 3, none⟩) (by first | (rw [add_block]; exact hn341_3) | (show (Addr.add _ _).block ≠ _; rw [add_block]; exact hn341_3) | exact hn341_3) (.int .i64 t335)).trans hx341_0; replace hx341_1 := (cell_far (p := ⟨gb340, 3, none⟩) (by first | (rw [add_block]; exact hn341_3) | (show (Addr.add _ _).block ≠ _; rw [add_block]; exact hn341_3) | exact hn341_3) (.int .i64 t335)).trans hx341_1; replace hx341_2 := (cell_far (p := ⟨gb340, 3, none⟩) (by first | (rw [add_block]; exact hn341_3) | (show (Addr.add _ _).block ≠ _; rw [add_block]; exact hn341_3) | exact hn341_3) (.int .i64 t335)).trans hx341_2; replace hx341_0 := (cell_far (p := ⟨gb340, 4, none⟩) (by first | (rw [add_block]; exact hn341_4) | (show (Addr.add _ _).block ≠ _; rw [add_block]; exact hn341_4) | exact hn341_4) (.slice (some ad341) t336.length co11)).trans hx341_0; replace hx341_1 := (cell_far (p := ⟨gb340, 4, none⟩) (by first | (rw [add_block]; exact hn341_4) | (show (Addr.add _ _).block ≠ _; rw [add_block]; exact hn341_4) | exact hn341_4) (.slice (some ad341) t336.length co11)).trans hx341_1; replace hx341_2 := (cell_far (p := ⟨gb340, 4, none⟩) (by first | (rw [add_block]; exact hn341_4) | (show (Addr.add _ _).block ≠ _; rw [add_block]; exact hn341_4) | exact hn341_4) (.slice (some ad341) t336.length co11)).trans hx341_2; clear hn341_0 hn341_1 hn341_2 hn341_3 hn341_4; replace p341 := eq_true p341; replace q341 := eq_true q341))
      go_ret
      exact ⟨by first | rfl | (simp [errW_none, errW_some] <;> rfl) | (simp [*, errW_none, errW_some] <;> rfl), by repeat (first | (with_reducible first | exact HB.out | apply below_alloc | apply pw_below_drewN | apply below_drew1 | refine below_set ?_ GE340.out) | exact HB.out)⟩
     ·rw [if_neg c6] at H
      exact absurd H (by simp)
    ·rw [if_neg c5] at H
     have c5b0 : ((t336.length : Int) == 2) = false := beq_eq_false_iff_ne.mpr c5
     have c5b1 : ((t336.length : Int) != 2) = true := bne_iff_ne.mpr c5
     exact absurd (Option.some.inj H) (by rw [hrt_]; decide)
   ·rw [if_neg c4] at H
    have c4b0 : (t335 == 9) = false := beq_eq_false_iff_ne.mpr c4
    have c4b1 : (t335 != 9) = true := bne_iff_ne.mpr c4
    exact absurd (Option.some.inj H) (by rw [hrt_]; decide)
  ·rw [if_neg c3] at H
   have c3b0 : (t330 == 2) = false := beq_eq_false_iff_ne.mpr c3
   have c3b1 : (t330 != 2) = true := bne_iff_ne.mpr c3
   exact absurd (Option.some.inj H) (by rw [hrt_]; decide)
 ·rw [if_neg c2] at H
  have c2b0 : (t339 == 0) = false := beq_eq_false_iff_ne.mpr c2
  have c2b1 : (t339 != 0) = true := bne_iff_ne.mpr c2
  exact absurd (Option.some.inj H) (by rw [hrt_]; decide)
end Go.Proofs.YtjfknmlchdifjaaGreatDoorQ.P
namespace Go.Proofs.YtjfknmlchdifjaaGreatDoorQ.P
open Go.RowKit Go.Proofs.YtjfknmlchdifjaaGreatDoorW.PrintWords Go.Proofs.YtjfknmlchdifjaaGreatDoorW.PrintLast Go.Proofs.YtjfknmlchdifjaaGreatDoorW.PrintMore
attribute [local go_sem] max2_int min2_int max_two min_two max_three min_three max_four min_four
def foghornref12_Words.l0 : Nat → ByteArray → List ByteArray → Int → Int → Option (List ByteArray)
 | 0, _, _, _, _ => none
 | k + 1, x0, x3, x4, x5 => if x5 < (x0.size : Int) then (if 0 ≤ x5 then (if (bt x0 x5) = 32 then (if 0 ≤ x4 then (if x4 ≤ x5 then (if x5 ≤ (x0.size : Int) then (if x3.length < 8796093022208 then (foghornref12_Words.l0 k x0 (x3 ++ [x0.extract (x4 : Int).toNat (x5 : Int).toNat]) (wrap64 (x5 + 1)) (wrap64 (x5 + 1))) else (none)) else (none)) else (none)) else (none)) else (foghornref12_Words.l0 k x0 x3 x4 (wrap64 (x5 + 1)))) else (none)) else (if 0 ≤ x4 then (if x4 ≤ (x0.size : Int) then (if x3.length < 8796093022208 then (some (x3 ++ [x0.extract (x4 : Int).toNat x0.size])) else (none)) else (none)) else (none))
def foghornref12_Words.f (k : Nat) (a0 : ByteArray) : Option (List ByteArray) := foghornref12_Words.l0 k a0 (([] : List ByteArray)) 0 0
theorem foghornref12_Words.mono_l : ∀ k, (∀ y0 y1 y2 y3, LeO (foghornref12_Words.l0 k y0 y1 y2 y3) (foghornref12_Words.l0 (k + 1) y0 y1 y2 y3))
 | 0 => fun _ _ _ _ r h => by simp [foghornref12_Words.l0] at h
 | k + 1 => by
  have ih0 := foghornref12_Words.mono_l k
  ·intro y0 y1 y2 y3
   unfold foghornref12_Words.l0
   repeat' first
   | (with_reducible exact ih0 _ _ _ _)
   | (with_reducible exact LeO.refl _)
   | (with_reducible exact LeO.none _)
   | (with_reducible refine LeO.ite ?_ ?_)
   | (with_reducible refine LeO.bind ?_ (fun _ => ?_))
   | exact ih0 _ _ _ _
   | exact LeO.none _
   | refine LeO.ite ?_ ?_
   | refine LeO.bind ?_ (fun _ => ?_)
theorem foghornref12_Words.mono : ∀ a0 k, LeO (foghornref12_Words.f k a0) (foghornref12_Words.f (k + 1) a0) := by
 intro a0 k
 have ih0 := foghornref12_Words.mono_l k
 unfold foghornref12_Words.f
 repeat' first
   | (with_reducible exact ih0 _ _ _ _)
   | (with_reducible exact LeO.refl _)
   | (with_reducible exact LeO.none _)
   | (with_reducible refine LeO.ite ?_ ?_)
   | (with_reducible refine LeO.bind ?_ (fun _ => ?_))
   | exact ih0 _ _ _ _
   | exact LeO.none _
   | refine LeO.ite ?_ ?_
   | refine LeO.bind ?_ (fun _ => ?_)
set_option maxHeartbeats 8000000 in
set_option maxRecDepth 100000 in
theorem foghornref12_Words.calls (k : Nat) (a0 : ByteArray) (r : List ByteArray) (w : World) (h : foghornref12_Words.f k a0 = some r) :
  Calls Tryz.prog 37 #[.string a0] w fun e w' => ∃ v0_ : Value, e = .returned (v0_) ∧ Kd.R Kd.string 9 w' w.heap.size (fun _ => True) v0_ r ∧ Below w.heap.size w w' := by
 have HB := aA (Below.refl w.heap.size w)
 have H : (foghornref12_Words.l0 k a0 (([] : List ByteArray)) 0 0) = some r := h
 clear h
 obtain ⟨y189, hy189⟩ : ∃ y_ : List ByteArray, y_ = (([] : List ByteArray)) := ⟨_, rfl⟩
 replace H : (foghornref12_Words.l0 k a0 y189 0 0) = some r := by first | (rw [hy189]; with_reducible exact H) | (have H2_ := (Option.bind_some _ _).symm.trans H; rw [hy189]; with_reducible exact H2_) | (have H2_ := (Option.bind_some _ _).symm.trans H; with_reducible exact H2_) | with_reducible exact H | (rw [hy189]; exact H) | exact H
 have Ny189 := aA hy189
 clear hy189
 have H' := aA H
 clear H
 go_enter Tryz.func37, Tryz.ntmps37
 go_wp2_with (first | ((with_reducible refine gate_dst (N := 6) rfl ?_); refine Kd.R_lit Kd.string _ 9 ?hg (N := 6) ?hd (xs := ([] : List ByteArray)) (inner := []) (ok := fun _ => True) (okp := fun _ => True) ?hr ?hp (fun _ hk => hk) trivial (Below.refl _ _) (Nat.le_refl _) (by simp) ?_; (case hd => rfl); (case hg => rfl); (case hr => first | (go_simp; done) | (go_simp; rfl)); (case hp => exact (Reps.none _ _)); intro v190 w2 ho3 hb hg_ hnew_; clear hg_ hnew_; (first | rw [← Ny189.out] at ho3 | (simp only [Int.reduceToNat] at ho3; rw [← Ny189.out] at ho3)); have n0_ := aA (Kd.R_lower ho3 (below_size mB)); have n1_ := aA (below_step mB hb); clear HB; have HO191 := n0_; have HB := n1_; clear n0_ n1_ hb ho3))
 go_loopg [3, 4, 5] k (fun kq v3 v4 v5 w' => ∃ (x3_1 : List ByteArray) (x4_1 : Int) (x5_1 : Int), v4 = .int .i64 x4_1 ∧ v5 = .int .i64 x5_1 ∧ Aside0 (foghornref12_Words.l0 kq a0 x3_1 x4_1 x5_1 = some r) ∧ Aside0 (kq ≤ k) ∧ Aside0 (Kd.R Kd.string 9 w' w.heap.size (fun _ => True) v3 x3_1) ∧ Aside0 (Below w.heap.size w w'))
 case atStart => exact ⟨(y189), (0), (0), (by first | rfl | (simp; done) | (simp [*]; done)), (by first | rfl | (simp; done) | (simp [*]; done)), H', ⟨Nat.le_refl _⟩, ⟨by (with_reducible repeat (first | apply Kd.R_alloc | apply Kd.R_drewN | apply Kd.R_drew)); exact HO191.out⟩, ⟨by repeat (first | (with_reducible first | exact HB.out | apply below_alloc | apply pw_below_drewN | apply below_drew1) | exact HB.out)⟩⟩
 case round =>
  clear H'
  try clear p2
  try clear c3
  obtain ⟨x3_1, x4_1, x5_1, rfl, rfl, HA, HK1, HO_3, HB⟩ := hrel
  cases gk with
  | zero => exact absurd HA.out (by simp [foghornref12_Words.l0])
  | succ k1 =>
   have H := HA.out
   clear HA
   simp only [foghornref12_Words.l0] at H
   by_cases c4 : x5_1 < (a0.size : Int)
   ·rw [if_pos c4] at H
    have c4b0 : decide (x5_1 < (a0.size : Int)) = true := decide_eq_true c4
    clear c4
    by_cases c5 : 0 ≤ x5_1
    ·rw [if_pos c5] at H
     have c5b0 : decide (0 ≤ x5_1) = true := decide_eq_true c5
     clear c5
     by_cases c7 : (bt a0 x5_1) = 32
     ·rw [if_pos c7] at H
      have c7b0 : ((bt a0 x5_1) == 32) = true := beq_iff_eq.mpr c7
      have c7b1 : ((bt a0 x5_1) != 32) = false := bne_eq_false_iff_eq.mpr c7
      clear c7
      by_cases c8 : 0 ≤ x4_1
      ·rw [if_pos c8] at H
       have c8b0 := eq_true c8
       have c8b1 := decide_eq_true c8
       clear c8
       by_cases c9 : x4_1 ≤ x5_1
       ·rw [if_pos c9] at H
        have c9b0 := eq_true c9
        have c9b1 := decide_eq_true c9
        clear c9
        by_cases c10 : x5_1 ≤ (a0.size : Int)
        ·rw [if_pos c10] at H
         have c10b0 := eq_true c10
         have c10b1 := decide_eq_true c10
         clear c10
         by_cases c11 : x3_1.length < 8796093022208
         ·rw [if_pos c11] at H
          have LMc11 := aA c11
          clear c11
          obtain ⟨y192, hy192⟩ : ∃ y_ : List ByteArray, y_ = (x3_1 ++ [a0.extract (x4_1 : Int).toNat (x5_1 : Int).toNat]) := ⟨_, rfl⟩
          replace H : (foghornref12_Words.l0 k1 a0 y192 (wrap64 (x5_1 + 1)) (wrap64 (x5_1 + 1))) = some r := by first | (rw [hy192]; with_reducible exact H) | (have H2_ := (Option.bind_some _ _).symm.trans H; rw [hy192]; with_reducible exact H2_) | (have H2_ := (Option.bind_some _ _).symm.trans H; with_reducible exact H2_) | with_reducible exact H | (rw [hy192]; exact H) | exact H
          have Ny192 := aA hy192
          clear hy192
          have H' := aA H
          clear H
          have p6 : 0 ≤ (x5_1 : Int) := of_decide_eq_true (by first | (with_reducible assumption) | assumption)
          have q6 : x5_1 < (a0.size : Int) := of_decide_eq_true (by first | (with_reducible assumption) | assumption)
          have hx6 := bt_at a0 x5_1
          replace p6 := eq_true p6
          replace q6 := eq_true q6
          go_wp2_with (first | ((with_reducible refine gate_builtin (b := .append) (xs := #[.tmp 17, .tmp 22]) rfl ?_); at_builtin; refine Kd.R_append Kd.string (w0 := w) w.heap.size rfl (.tmp 17) (.tmp 22) 67 9 (.string ⟨#[]⟩) 16 rfl Tryz.underlying67 info9 rfl (by decide) (by omega) u3 x3_1 (a0.extract (x4_1 : Int).toNat (x5_1 : Int).toNat) [.string (a0.extract (x4_1 : Int).toNat (x5_1 : Int).toNat)] (fun _ => True) (fun _ => False) rfl rfl ?aP (fun _ hk => hk.elim) ?aF ?aO ?aB ?aS ?aL ?_; (case aP => exact rfl); (case aB => exact mB); (case aF => exact (fun _ _ => trivial)); (case aO => exact (mR HO_3.out)); (case aS => exact (below_size mB)); (case aL => have := LMc11.out; omega); intro v193 w12 ho hb hg hat; rw [← Ny192.out] at ho; have n0_ := aA (hb); have n1_ := aA (ho); clear HB HO_3; have HB := n0_; have HO194 := n1_; clear n0_ n1_ ho hb hg hat))
          go_roundg k1
          case measure => have := HK1.out; omega
          case rel => exact ⟨(y192), (wrap64 (x5_1 + 1)), (wrap64 (x5_1 + 1)), (by first | rfl | (simp; done) | (simp [*]; done)), (by first | rfl | (simp; done) | (simp [*]; done)), H', ⟨by have := HK1.out; omega⟩, ⟨by (with_reducible repeat (first | apply Kd.R_alloc | apply Kd.R_drewN | apply Kd.R_drew)); exact HO194.out⟩, ⟨by repeat (first | (with_reducible first | exact HB.out | apply below_alloc | apply pw_below_drewN | apply below_drew1) | exact HB.out)⟩⟩
         ·rw [if_neg c11] at H
          exact absurd H (by simp)
        ·rw [if_neg c10] at H
         exact absurd H (by simp)
       ·rw [if_neg c9] at H
        exact absurd H (by simp)
      ·rw [if_neg c8] at H
       exact absurd H (by simp)
     ·rw [if_neg c7] at H
      have c7b0 : ((bt a0 x5_1) == 32) = false := beq_eq_false_iff_ne.mpr c7
      have c7b1 : ((bt a0 x5_1) != 32) = true := bne_iff_ne.mpr c7
      have H' := aA H
      clear H
      have p6 : 0 ≤ (x5_1 : Int) := of_decide_eq_true (by first | (with_reducible assumption) | assumption)
      have q6 : x5_1 < (a0.size : Int) := of_decide_eq_true (by first | (with_reducible assumption) | assumption)
      have hx6 := bt_at a0 x5_1
      replace p6 := eq_true p6
      replace q6 := eq_true q6
      go_wp2
      go_roundg k1
      case measure => have := HK1.out; omega
      case rel => exact ⟨(x3_1), (x4_1), (wrap64 (x5_1 + 1)), (by first | rfl | (simp; done) | (simp [*]; done)), (by first | rfl | (simp; done) | (simp [*]; done)), H', ⟨by have := HK1.out; omega⟩, ⟨by (with_reducible repeat (first | apply Kd.R_alloc | apply Kd.R_drewN | apply Kd.R_drew)); exact HO_3.out⟩, ⟨by repeat (first | (with_reducible first | exact HB.out | apply below_alloc | apply pw_below_drewN | apply below_drew1) | exact HB.out)⟩⟩
    ·rw [if_neg c5] at H
     exact absurd H (by simp)
   ·rw [if_neg c4] at H
    have c4b0 : decide (x5_1 < (a0.size : Int)) = false := decide_eq_false c4
    clear c4
    by_cases c13 : 0 ≤ x4_1
    ·rw [if_pos c13] at H
     have c13b0 := eq_true c13
     have c13b1 := decide_eq_true c13
     clear c13
     by_cases c14 : x4_1 ≤ (a0.size : Int)
     ·rw [if_pos c14] at H
      have c14b0 := eq_true c14
      have c14b1 := decide_eq_true c14
      clear c14
      by_cases c15 : x3_1.length < 8796093022208
      ·rw [if_pos c15] at H
       have LMc15 := aA c15
       clear c15
       obtain ⟨y195, hy195⟩ : ∃ y_ : List ByteArray, y_ = (x3_1 ++ [a0.extract (x4_1 : Int).toNat a0.size]) := ⟨_, rfl⟩
       replace H : (some y195) = some r := by first | (rw [hy195]; with_reducible exact H) | (have H2_ := (Option.bind_some _ _).symm.trans H; rw [hy195]; with_reducible exact H2_) | (have H2_ := (Option.bind_some _ _).symm.trans H; with_reducible exact H2_) | with_reducible exact H | (rw [hy195]; exact H) | exact H
       have Ny195 := aA hy195
       clear hy195
       obtain rfl := Option.some.inj H
       go_wp2_with (first | ((with_reducible refine gate_builtin (b := .append) (xs := #[.tmp 26, .tmp 30]) rfl ?_); at_builtin; refine Kd.R_append Kd.string (w0 := w) w.heap.size rfl (.tmp 26) (.tmp 30) 67 9 (.string ⟨#[]⟩) 16 rfl Tryz.underlying67 info9 rfl (by decide) (by omega) u3 x3_1 (a0.extract (x4_1 : Int).toNat a0.size) [.string (a0.extract (x4_1 : Int).toNat a0.size)] (fun _ => True) (fun _ => False) rfl rfl ?aP (fun _ hk => hk.elim) ?aF ?aO ?aB ?aS ?aL ?_; (case aP => exact rfl); (case aB => exact mB); (case aF => exact (fun _ _ => trivial)); (case aO => exact (mR HO_3.out)); (case aS => exact (below_size mB)); (case aL => have := LMc15.out; omega); intro v196 w16 ho hb hg hat; rw [← Ny195.out] at ho; have n0_ := aA (hb); have n1_ := aA (ho); clear HB HO_3; have HB := n0_; have HO197 := n1_; clear n0_ n1_ ho hb hg hat))
       go_ret
       exact ⟨_, by first | rfl | (simp [errW_none, errW_some] <;> rfl) | (simp [*, errW_none, errW_some] <;> rfl), by (with_reducible repeat (first | apply Kd.R_alloc | apply Kd.R_drewN | apply Kd.R_drew)); exact HO197.out, by repeat (first | (with_reducible first | exact HB.out | apply below_alloc | apply pw_below_drewN | apply below_drew1) | exact HB.out)⟩
      ·rw [if_neg c15] at H
       exact absurd H (by simp)
     ·rw [if_neg c14] at H
      exact absurd H (by simp)
    ·rw [if_neg c13] at H
     exact absurd H (by simp)
end Go.Proofs.YtjfknmlchdifjaaGreatDoorQ.P
namespace Go.Proofs.YtjfknmlchdifjaaGreatDoorQ.P
open Go.RowKit Go.Proofs.YtjfknmlchdifjaaGreatDoorW.PrintWords Go.Proofs.YtjfknmlchdifjaaGreatDoorW.PrintLast Go.Proofs.YtjfknmlchdifjaaGreatDoorW.PrintMore
attribute [local go_sem] max2_int min2_int max_two min_two max_three min_three max_four min_four
def foghornref10_Name.l0 : Nat → ByteArray → Int → Option (Bool)
 | 0, _, _ => none
 | k + 1, x0, x3 => if x3 < (x0.size : Int) then (if 0 ≤ x3 then (if (bt x0 x3) < 97 then (some false) else (if (bt x0 x3) > 122 then (some false) else (foghornref10_Name.l0 k x0 (wrap64 (x3 + 1))))) else (none)) else (if (x0.size : Int) ≥ 1 then (some (decide ((x0.size : Int) ≤ 8))) else (some false))
def foghornref10_Name.f (k : Nat) (a0 : ByteArray) : Option (Bool) := foghornref10_Name.l0 k a0 0
theorem foghornref10_Name.mono_l : ∀ k, (∀ y0 y1, LeO (foghornref10_Name.l0 k y0 y1) (foghornref10_Name.l0 (k + 1) y0 y1))
 | 0 => fun _ _ r h => by simp [foghornref10_Name.l0] at h
 | k + 1 => by
  have ih0 := foghornref10_Name.mono_l k
  ·intro y0 y1
   unfold foghornref10_Name.l0
   repeat' first
   | (with_reducible exact ih0 _ _)
   | (with_reducible exact LeO.refl _)
   | (with_reducible exact LeO.none _)
   | (with_reducible refine LeO.ite ?_ ?_)
   | (with_reducible refine LeO.bind ?_ (fun _ => ?_))
   | exact ih0 _ _
   | exact LeO.none _
   | refine LeO.ite ?_ ?_
   | refine LeO.bind ?_ (fun _ => ?_)
theorem foghornref10_Name.mono : ∀ a0 k, LeO (foghornref10_Name.f k a0) (foghornref10_Name.f (k + 1) a0) := by
 intro a0 k
 have ih0 := foghornref10_Name.mono_l k
 unfold foghornref10_Name.f
 repeat' first
   | (with_reducible exact ih0 _ _)
   | (with_reducible exact LeO.refl _)
   | (with_reducible exact LeO.none _)
   | (with_reducible refine LeO.ite ?_ ?_)
   | (with_reducible refine LeO.bind ?_ (fun _ => ?_))
   | exact ih0 _ _
   | exact LeO.none _
   | refine LeO.ite ?_ ?_
   | refine LeO.bind ?_ (fun _ => ?_)
set_option maxHeartbeats 8000000 in
set_option maxRecDepth 100000 in
theorem foghornref10_Name.calls (k : Nat) (a0 : ByteArray) (r : Bool) (w : World) (h : foghornref10_Name.f k a0 = some r) :
  Calls Tryz.prog 51 #[.string a0] w fun e w' => e = .returned (.bool r) ∧ Drawn0 w w' := by
 have H : (foghornref10_Name.l0 k a0 0) = some r := h
 clear h
 have H' := aA H
 clear H
 go_enter Tryz.func51, Tryz.ntmps51
 go_wp2
 go_loopg [3] k (fun kq v3 w' => ∃ (x3_1 : Int), v3 = .int .i64 x3_1 ∧ Aside0 (foghornref10_Name.l0 kq a0 x3_1 = some r) ∧ Aside0 (kq ≤ k) ∧ Drawn0 w w')
 case atStart => exact ⟨(0), (by first | rfl | (simp; done) | (simp [*]; done)), H', ⟨Nat.le_refl _⟩, by repeat (first | exact Drawn0.refl _ | apply Drawn0.step)⟩
 case round =>
  clear H'
  obtain ⟨x3_1, rfl, HA, HK1, ⟨m1, rfl⟩⟩ := hrel
  cases gk with
  | zero => exact absurd HA.out (by simp [foghornref10_Name.l0])
  | succ k1 =>
   have H := HA.out
   clear HA
   simp only [foghornref10_Name.l0] at H
   by_cases c2 : x3_1 < (a0.size : Int)
   ·rw [if_pos c2] at H
    have c2b0 : decide (x3_1 < (a0.size : Int)) = true := decide_eq_true c2
    clear c2
    by_cases c3 : 0 ≤ x3_1
    ·rw [if_pos c3] at H
     have c3b0 : decide (0 ≤ x3_1) = true := decide_eq_true c3
     clear c3
     by_cases c5 : (bt a0 x3_1) < 97
     ·rw [if_pos c5] at H
      have c5b0 : decide ((bt a0 x3_1) < 97) = true := decide_eq_true c5
      clear c5
      obtain rfl := Option.some.inj H
      have p4 : 0 ≤ (x3_1 : Int) := of_decide_eq_true (by first | (with_reducible assumption) | assumption)
      have q4 : x3_1 < (a0.size : Int) := of_decide_eq_true (by first | (with_reducible assumption) | assumption)
      have hx4 := bt_at a0 x3_1
      replace p4 := eq_true p4
      replace q4 := eq_true q4
      go_wp2
      go_ret
      exact ⟨by first | rfl | (simp; done) | (simp [*]; done), by repeat (first | exact Drawn0.refl _ | apply Drawn0.step)⟩
     ·rw [if_neg c5] at H
      have c5b0 : decide ((bt a0 x3_1) < 97) = false := decide_eq_false c5
      clear c5
      by_cases c7 : (bt a0 x3_1) > 122
      ·rw [if_pos c7] at H
       have c7b0 : decide (122 < (bt a0 x3_1)) = true := decide_eq_true c7
       clear c7
       obtain rfl := Option.some.inj H
       have p4 : 0 ≤ (x3_1 : Int) := of_decide_eq_true (by first | (with_reducible assumption) | assumption)
       have q4 : x3_1 < (a0.size : Int) := of_decide_eq_true (by first | (with_reducible assumption) | assumption)
       have hx4 := bt_at a0 x3_1
       replace p4 := eq_true p4
       replace q4 := eq_true q4
       have p6 : 0 ≤ (x3_1 : Int) := of_decide_eq_true (by first | (with_reducible assumption) | assumption)
       have q6 : x3_1 < (a0.size : Int) := of_decide_eq_true (by first | (with_reducible assumption) | assumption)
       have hx6 := bt_at a0 x3_1
       replace p6 := eq_true p6
       replace q6 := eq_true q6
       go_wp2
       go_ret
       exact ⟨by first | rfl | (simp; done) | (simp [*]; done), by repeat (first | exact Drawn0.refl _ | apply Drawn0.step)⟩
      ·rw [if_neg c7] at H
       have c7b0 : decide (122 < (bt a0 x3_1)) = false := decide_eq_false c7
       clear c7
       have H' := aA H
       clear H
       have p4 : 0 ≤ (x3_1 : Int) := of_decide_eq_true (by first | (with_reducible assumption) | assumption)
       have q4 : x3_1 < (a0.size : Int) := of_decide_eq_true (by first | (with_reducible assumption) | assumption)
       have hx4 := bt_at a0 x3_1
       replace p4 := eq_true p4
       replace q4 := eq_true q4
       have p6 : 0 ≤ (x3_1 : Int) := of_decide_eq_true (by first | (with_reducible assumption) | assumption)
       have q6 : x3_1 < (a0.size : Int) := of_decide_eq_true (by first | (with_reducible assumption) | assumption)
       have hx6 := bt_at a0 x3_1
       replace p6 := eq_true p6
       replace q6 := eq_true q6
       go_wp2
       go_roundg k1
       case measure => have := HK1.out; omega
       case rel => exact ⟨(wrap64 (x3_1 + 1)), (by first | rfl | (simp; done) | (simp [*]; done)), H', ⟨by have := HK1.out; omega⟩, by repeat (first | exact Drawn0.refl _ | apply Drawn0.step)⟩
    ·rw [if_neg c3] at H
     exact absurd H (by simp)
   ·rw [if_neg c2] at H
    have c2b0 : decide (x3_1 < (a0.size : Int)) = false := decide_eq_false c2
    clear c2
    by_cases c8 : (a0.size : Int) ≥ 1
    ·rw [if_pos c8] at H
     have c8b0 : decide (1 ≤ (a0.size : Int)) = true := decide_eq_true c8
     have c8b1 : decide (1 ≤ a0.size) = true := decide_eq_true (by omega)
     clear c8
     obtain rfl := Option.some.inj H
     go_wp2
     go_ret
     exact ⟨by first | rfl | (simp; done) | (simp [*]; done), by repeat (first | exact Drawn0.refl _ | apply Drawn0.step)⟩
    ·rw [if_neg c8] at H
     have c8b0 : decide (1 ≤ (a0.size : Int)) = false := decide_eq_false c8
     have c8b1 : decide (1 ≤ a0.size) = false := decide_eq_false (by omega)
     clear c8
     obtain rfl := Option.some.inj H
     go_wp2
     go_ret
     exact ⟨by first | rfl | (simp; done) | (simp [*]; done), by repeat (first | exact Drawn0.refl _ | apply Drawn0.step)⟩
end Go.Proofs.YtjfknmlchdifjaaGreatDoorQ.P
namespace Go.Proofs.YtjfknmlchdifjaaGreatDoorQ.P
open Go.RowKit Go.Proofs.YtjfknmlchdifjaaGreatDoorW.PrintWords Go.Proofs.YtjfknmlchdifjaaGreatDoorW.PrintLast Go.Proofs.YtjfknmlchdifjaaGreatDoorW.PrintMore
attribute [local go_sem] max2_int min2_int max_two min_two max_three min_three max_four min_four
def foghornref10_Value.l0 : Nat → ByteArray → Int → Option (Bool)
 | 0, _, _ => none
 | k + 1, x0, x3 => if x3 < (x0.size : Int) then (if 0 ≤ x3 then (if (bt x0 x3) ≥ 97 then (if (bt x0 x3) ≤ 122 then (foghornref10_Value.l0 k x0 (wrap64 (x3 + 1))) else (if (bt x0 x3) ≥ 48 then (if (bt x0 x3) ≤ 57 then (foghornref10_Value.l0 k x0 (wrap64 (x3 + 1))) else (if ((bt x0 x3) = 45) then (foghornref10_Value.l0 k x0 (wrap64 (x3 + 1))) else (some false))) else (if ((bt x0 x3) = 45) then (foghornref10_Value.l0 k x0 (wrap64 (x3 + 1))) else (some false)))) else (if (bt x0 x3) ≥ 48 then (if (bt x0 x3) ≤ 57 then (foghornref10_Value.l0 k x0 (wrap64 (x3 + 1))) else (if ((bt x0 x3) = 45) then (foghornref10_Value.l0 k x0 (wrap64 (x3 + 1))) else (some false))) else (if ((bt x0 x3) = 45) then (foghornref10_Value.l0 k x0 (wrap64 (x3 + 1))) else (some false)))) else (none)) else (some (decide ((x0.size : Int) ≤ 8)))
def foghornref10_Value.f (k : Nat) (a0 : ByteArray) : Option (Bool) := foghornref10_Value.l0 k a0 0
theorem foghornref10_Value.mono_l : ∀ k, (∀ y0 y1, LeO (foghornref10_Value.l0 k y0 y1) (foghornref10_Value.l0 (k + 1) y0 y1))
 | 0 => fun _ _ r h => by simp [foghornref10_Value.l0] at h
 | k + 1 => by
  have ih0 := foghornref10_Value.mono_l k
  ·intro y0 y1
   unfold foghornref10_Value.l0
   repeat' first
   | (with_reducible exact ih0 _ _)
   | (with_reducible exact LeO.refl _)
   | (with_reducible exact LeO.none _)
   | (with_reducible refine LeO.ite ?_ ?_)
   | (with_reducible refine LeO.bind ?_ (fun _ => ?_))
   | exact ih0 _ _
   | exact LeO.none _
   | refine LeO.ite ?_ ?_
   | refine LeO.bind ?_ (fun _ => ?_)
theorem foghornref10_Value.mono : ∀ a0 k, LeO (foghornref10_Value.f k a0) (foghornref10_Value.f (k + 1) a0) := by
 intro a0 k
 have ih0 := foghornref10_Value.mono_l k
 unfold foghornref10_Value.f
 repeat' first
   | (with_reducible exact ih0 _ _)
   | (with_reducible exact LeO.refl _)
   | (with_reducible exact LeO.none _)
   | (with_reducible refine LeO.ite ?_ ?_)
   | (with_reducible refine LeO.bind ?_ (fun _ => ?_))
   | exact ih0 _ _
   | exact LeO.none _
   | refine LeO.ite ?_ ?_
   | refine LeO.bind ?_ (fun _ => ?_)
set_option maxHeartbeats 8000000 in
set_option maxRecDepth 100000 in
theorem foghornref10_Value.calls (k : Nat) (a0 : ByteArray) (r : Bool) (w : World) (h : foghornref10_Value.f k a0 = some r) :
  Calls Tryz.prog 52 #[.string a0] w fun e w' => e = .returned (.bool r) ∧ Drawn0 w w' := by
 have H : (foghornref10_Value.l0 k a0 0) = some r := h
 clear h
 have H' := aA H
 clear H
 go_enter Tryz.func52, Tryz.ntmps52
 go_wp2
 go_loopg [3] k (fun kq v3 w' => ∃ (x3_1 : Int), v3 = .int .i64 x3_1 ∧ Aside0 (foghornref10_Value.l0 kq a0 x3_1 = some r) ∧ Aside0 (kq ≤ k) ∧ Drawn0 w w')
 case atStart => exact ⟨(0), (by first | rfl | (simp; done) | (simp [*]; done)), H', ⟨Nat.le_refl _⟩, by repeat (first | exact Drawn0.refl _ | apply Drawn0.step)⟩
 case round =>
  clear H'
  obtain ⟨x3_1, rfl, HA, HK1, ⟨m1, rfl⟩⟩ := hrel
  cases gk with
  | zero => exact absurd HA.out (by simp [foghornref10_Value.l0])
  | succ k1 =>
   have H := HA.out
   clear HA
   simp only [foghornref10_Value.l0] at H
   by_cases c2 : x3_1 < (a0.size : Int)
   ·rw [if_pos c2] at H
    have c2b0 : decide (x3_1 < (a0.size : Int)) = true := decide_eq_true c2
    clear c2
    by_cases c3 : 0 ≤ x3_1
    ·rw [if_pos c3] at H
     have c3b0 : decide (0 ≤ x3_1) = true := decide_eq_true c3
     clear c3
     by_cases c5 : (bt a0 x3_1) ≥ 97
     ·rw [if_pos c5] at H
      have c5b0 : decide (97 ≤ (bt a0 x3_1)) = true := decide_eq_true c5
      clear c5
      by_cases c6 : (bt a0 x3_1) ≤ 122
      ·rw [if_pos c6] at H
       have c6b0 : decide ((bt a0 x3_1) ≤ 122) = true := decide_eq_true c6
       clear c6
       have H' := aA H
       clear H
       have p4 : 0 ≤ (x3_1 : Int) := of_decide_eq_true (by first | (with_reducible assumption) | assumption)
       have q4 : x3_1 < (a0.size : Int) := of_decide_eq_true (by first | (with_reducible assumption) | assumption)
       have hx4 := bt_at a0 x3_1
       replace p4 := eq_true p4
       replace q4 := eq_true q4
       go_wp2
       go_roundg k1
       case measure => have := HK1.out; omega
       case rel => exact ⟨(wrap64 (x3_1 + 1)), (by first | rfl | (simp; done) | (simp [*]; done)), H', ⟨by have := HK1.out; omega⟩, by repeat (first | exact Drawn0.refl _ | apply Drawn0.step)⟩
      ·rw [if_neg c6] at H
       have c6b0 : decide ((bt a0 x3_1) ≤ 122) = false := decide_eq_false c6
       clear c6
       by_cases c7 : (bt a0 x3_1) ≥ 48
       ·rw [if_pos c7] at H
        have c7b0 : decide (48 ≤ (bt a0 x3_1)) = true := decide_eq_true c7
        clear c7
        by_cases c8 : (bt a0 x3_1) ≤ 57
        ·rw [if_pos c8] at H
         have c8b0 : decide ((bt a0 x3_1) ≤ 57) = true := decide_eq_true c8
         clear c8
         have H' := aA H
         clear H
         have p4 : 0 ≤ (x3_1 : Int) := of_decide_eq_true (by first | (with_reducible assumption) | assumption)
         have q4 : x3_1 < (a0.size : Int) := of_decide_eq_true (by first | (with_reducible assumption) | assumption)
         have hx4 := bt_at a0 x3_1
         replace p4 := eq_true p4
         replace q4 := eq_true q4
         go_wp2
         go_roundg k1
         case measure => have := HK1.out; omega
         case rel => exact ⟨(wrap64 (x3_1 + 1)), (by first | rfl | (simp; done) | (simp [*]; done)), H', ⟨by have := HK1.out; omega⟩, by repeat (first | exact Drawn0.refl _ | apply Drawn0.step)⟩
        ·rw [if_neg c8] at H
         have c8b0 : decide ((bt a0 x3_1) ≤ 57) = false := decide_eq_false c8
         clear c8
         by_cases c9 : ((bt a0 x3_1) = 45)
         ·rw [if_pos c9] at H
          have c9b0 : ((bt a0 x3_1) == 45) = true := beq_iff_eq.mpr c9
          have c9b1 : ((bt a0 x3_1) != 45) = false := bne_eq_false_iff_eq.mpr c9
          clear c9
          have H' := aA H
          clear H
          have p4 : 0 ≤ (x3_1 : Int) := of_decide_eq_true (by first | (with_reducible assumption) | assumption)
          have q4 : x3_1 < (a0.size : Int) := of_decide_eq_true (by first | (with_reducible assumption) | assumption)
          have hx4 := bt_at a0 x3_1
          replace p4 := eq_true p4
          replace q4 := eq_true q4
          go_wp2
          go_roundg k1
          case measure => have := HK1.out; omega
          case rel => exact ⟨(wrap64 (x3_1 + 1)), (by first | rfl | (simp; done) | (simp [*]; done)), H', ⟨by have := HK1.out; omega⟩, by repeat (first | exact Drawn0.refl _ | apply Drawn0.step)⟩
         ·rw [if_neg c9] at H
          have c9b0 : ((bt a0 x3_1) == 45) = false := beq_eq_false_iff_ne.mpr c9
          have c9b1 : ((bt a0 x3_1) != 45) = true := bne_iff_ne.mpr c9
          obtain rfl := Option.some.inj H
          have p4 : 0 ≤ (x3_1 : Int) := of_decide_eq_true (by first | (with_reducible assumption) | assumption)
          have q4 : x3_1 < (a0.size : Int) := of_decide_eq_true (by first | (with_reducible assumption) | assumption)
          have hx4 := bt_at a0 x3_1
          replace p4 := eq_true p4
          replace q4 := eq_true q4
          go_wp2
          go_ret
          exact ⟨by first | rfl | (simp; done) | (simp [*]; done), by repeat (first | exact Drawn0.refl _ | apply Drawn0.step)⟩
       ·rw [if_neg c7] at H
        have c7b0 : decide (48 ≤ (bt a0 x3_1)) = false := decide_eq_false c7
        clear c7
        by_cases c10 : ((bt a0 x3_1) = 45)
        ·rw [if_pos c10] at H
         have c10b0 : ((bt a0 x3_1) == 45) = true := beq_iff_eq.mpr c10
         have c10b1 : ((bt a0 x3_1) != 45) = false := bne_eq_false_iff_eq.mpr c10
         clear c10
         have H' := aA H
         clear H
         have p4 : 0 ≤ (x3_1 : Int) := of_decide_eq_true (by first | (with_reducible assumption) | assumption)
         have q4 : x3_1 < (a0.size : Int) := of_decide_eq_true (by first | (with_reducible assumption) | assumption)
         have hx4 := bt_at a0 x3_1
         replace p4 := eq_true p4
         replace q4 := eq_true q4
         go_wp2
         go_roundg k1
         case measure => have := HK1.out; omega
         case rel => exact ⟨(wrap64 (x3_1 + 1)), (by first | rfl | (simp; done) | (simp [*]; done)), H', ⟨by have := HK1.out; omega⟩, by repeat (first | exact Drawn0.refl _ | apply Drawn0.step)⟩
        ·rw [if_neg c10] at H
         have c10b0 : ((bt a0 x3_1) == 45) = false := beq_eq_false_iff_ne.mpr c10
         have c10b1 : ((bt a0 x3_1) != 45) = true := bne_iff_ne.mpr c10
         obtain rfl := Option.some.inj H
         have p4 : 0 ≤ (x3_1 : Int) := of_decide_eq_true (by first | (with_reducible assumption) | assumption)
         have q4 : x3_1 < (a0.size : Int) := of_decide_eq_true (by first | (with_reducible assumption) | assumption)
         have hx4 := bt_at a0 x3_1
         replace p4 := eq_true p4
         replace q4 := eq_true q4
         go_wp2
         go_ret
         exact ⟨by first | rfl | (simp; done) | (simp [*]; done), by repeat (first | exact Drawn0.refl _ | apply Drawn0.step)⟩
     ·rw [if_neg c5] at H
      have c5b0 : decide (97 ≤ (bt a0 x3_1)) = false := decide_eq_false c5
      clear c5
      by_cases c11 : (bt a0 x3_1) ≥ 48
      ·rw [if_pos c11] at H
       have c11b0 : decide (48 ≤ (bt a0 x3_1)) = true := decide_eq_true c11
       clear c11
       by_cases c12 : (bt a0 x3_1) ≤ 57
       ·rw [if_pos c12] at H
        have c12b0 : decide ((bt a0 x3_1) ≤ 57) = true := decide_eq_true c12
        clear c12
        have H' := aA H
        clear H
        have p4 : 0 ≤ (x3_1 : Int) := of_decide_eq_true (by first | (with_reducible assumption) | assumption)
        have q4 : x3_1 < (a0.size : Int) := of_decide_eq_true (by first | (with_reducible assumption) | assumption)
        have hx4 := bt_at a0 x3_1
        replace p4 := eq_true p4
        replace q4 := eq_true q4
        go_wp2
        go_roundg k1
        case measure => have := HK1.out; omega
        case rel => exact ⟨(wrap64 (x3_1 + 1)), (by first | rfl | (simp; done) | (simp [*]; done)), H', ⟨by have := HK1.out; omega⟩, by repeat (first | exact Drawn0.refl _ | apply Drawn0.step)⟩
       ·rw [if_neg c12] at H
        have c12b0 : decide ((bt a0 x3_1) ≤ 57) = false := decide_eq_false c12
        clear c12
        by_cases c13 : ((bt a0 x3_1) = 45)
        ·rw [if_pos c13] at H
         have c13b0 : ((bt a0 x3_1) == 45) = true := beq_iff_eq.mpr c13
         have c13b1 : ((bt a0 x3_1) != 45) = false := bne_eq_false_iff_eq.mpr c13
         clear c13
         have H' := aA H
         clear H
         have p4 : 0 ≤ (x3_1 : Int) := of_decide_eq_true (by first | (with_reducible assumption) | assumption)
         have q4 : x3_1 < (a0.size : Int) := of_decide_eq_true (by first | (with_reducible assumption) | assumption)
         have hx4 := bt_at a0 x3_1
         replace p4 := eq_true p4
         replace q4 := eq_true q4
         go_wp2
         go_roundg k1
         case measure => have := HK1.out; omega
         case rel => exact ⟨(wrap64 (x3_1 + 1)), (by first | rfl | (simp; done) | (simp [*]; done)), H', ⟨by have := HK1.out; omega⟩, by repeat (first | exact Drawn0.refl _ | apply Drawn0.step)⟩
        ·rw [if_neg c13] at H
         have c13b0 : ((bt a0 x3_1) == 45) = false := beq_eq_false_iff_ne.mpr c13
         have c13b1 : ((bt a0 x3_1) != 45) = true := bne_iff_ne.mpr c13
         obtain rfl := Option.some.inj H
         have p4 : 0 ≤ (x3_1 : Int) := of_decide_eq_true (by first | (with_reducible assumption) | assumption)
         have q4 : x3_1 < (a0.size : Int) := of_decide_eq_true (by first | (with_reducible assumption) | assumption)
         have hx4 := bt_at a0 x3_1
         replace p4 := eq_true p4
         replace q4 := eq_true q4
         go_wp2
         go_ret
         exact ⟨by first | rfl | (simp; done) | (simp [*]; done), by repeat (first | exact Drawn0.refl _ | apply Drawn0.step)⟩
      ·rw [if_neg c11] at H
       have c11b0 : decide (48 ≤ (bt a0 x3_1)) = false := decide_eq_false c11
       clear c11
       by_cases c14 : ((bt a0 x3_1) = 45)
       ·rw [if_pos c14] at H
        have c14b0 : ((bt a0 x3_1) == 45) = true := beq_iff_eq.mpr c14
        have c14b1 : ((bt a0 x3_1) != 45) = false := bne_eq_false_iff_eq.mpr c14
        clear c14
        have H' := aA H
        clear H
        have p4 : 0 ≤ (x3_1 : Int) := of_decide_eq_true (by first | (with_reducible assumption) | assumption)
        have q4 : x3_1 < (a0.size : Int) := of_decide_eq_true (by first | (with_reducible assumption) | assumption)
        have hx4 := bt_at a0 x3_1
        replace p4 := eq_true p4
        replace q4 := eq_true q4
        go_wp2
        go_roundg k1
        case measure => have := HK1.out; omega
        case rel => exact ⟨(wrap64 (x3_1 + 1)), (by first | rfl | (simp; done) | (simp [*]; done)), H', ⟨by have := HK1.out; omega⟩, by repeat (first | exact Drawn0.refl _ | apply Drawn0.step)⟩
       ·rw [if_neg c14] at H
        have c14b0 : ((bt a0 x3_1) == 45) = false := beq_eq_false_iff_ne.mpr c14
        have c14b1 : ((bt a0 x3_1) != 45) = true := bne_iff_ne.mpr c14
        obtain rfl := Option.some.inj H
        have p4 : 0 ≤ (x3_1 : Int) := of_decide_eq_true (by first | (with_reducible assumption) | assumption)
        have q4 : x3_1 < (a0.size : Int) := of_decide_eq_true (by first | (with_reducible assumption) | assumption)
        have hx4 := bt_at a0 x3_1
        replace p4 := eq_true p4
        replace q4 := eq_true q4
        go_wp2
        go_ret
        exact ⟨by first | rfl | (simp; done) | (simp [*]; done), by repeat (first | exact Drawn0.refl _ | apply Drawn0.step)⟩
    ·rw [if_neg c3] at H
     exact absurd H (by simp)
   ·rw [if_neg c2] at H
    have c2b0 : decide (x3_1 < (a0.size : Int)) = false := decide_eq_false c2
    clear c2
    obtain rfl := Option.some.inj H
    go_wp2
    go_ret
    exact ⟨by first | rfl | (simp; done) | (simp [*]; done), by repeat (first | exact Drawn0.refl _ | apply Drawn0.step)⟩
end Go.Proofs.YtjfknmlchdifjaaGreatDoorQ.P
namespace Go.Proofs.YtjfknmlchdifjaaGreatDoorQ.P
open Go.RowKit Go.Proofs.YtjfknmlchdifjaaGreatDoorW.PrintWords Go.Proofs.YtjfknmlchdifjaaGreatDoorW.PrintLast Go.Proofs.YtjfknmlchdifjaaGreatDoorW.PrintMore
attribute [local go_sem] max2_int min2_int max_two min_two max_three min_three max_four min_four
def foghornref12_label.l0 : Nat → ByteArray → Int → Option (ByteArray × ByteArray × Bool)
 | 0, _, _ => none
 | k + 1, x0, x4 => if x4 < (x0.size : Int) then (if 0 ≤ x4 then (if (bt x0 x4) = 61 then (if x4 ≤ (x0.size : Int) then (if 0 ≤ (wrap64 (x4 + 1)) then (if (wrap64 (x4 + 1)) ≤ (x0.size : Int) then ((foghornref10_Name.f k (x0.extract 0 (x4 : Int).toNat)).bind fun t200 => (if t200 = true then ((foghornref10_Value.f k (x0.extract ((wrap64 (x4 + 1)) : Int).toNat x0.size)).bind fun t201 => (some (x0.extract 0 (x4 : Int).toNat, x0.extract ((wrap64 (x4 + 1)) : Int).toNat x0.size, t201))) else (some (x0.extract 0 (x4 : Int).toNat, x0.extract ((wrap64 (x4 + 1)) : Int).toNat x0.size, false)))) else (none)) else (none)) else (none)) else (foghornref12_label.l0 k x0 (wrap64 (x4 + 1)))) else (none)) else (some ((⟨#[]⟩ : ByteArray), (⟨#[]⟩ : ByteArray), false))
def foghornref12_label.f (k : Nat) (a0 : ByteArray) : Option (ByteArray × ByteArray × Bool) := foghornref12_label.l0 k a0 0
theorem foghornref12_label.mono_l : ∀ k, (∀ y0 y1, LeO (foghornref12_label.l0 k y0 y1) (foghornref12_label.l0 (k + 1) y0 y1))
 | 0 => fun _ _ r h => by simp [foghornref12_label.l0] at h
 | k + 1 => by
  have ih0 := foghornref12_label.mono_l k
  ·intro y0 y1
   unfold foghornref12_label.l0
   repeat' first
   | (with_reducible exact ih0 _ _)
   | (with_reducible exact foghornref10_Name.mono _ _)
   | (with_reducible exact foghornref10_Value.mono _ _)
   | (with_reducible exact LeO.refl _)
   | (with_reducible exact LeO.none _)
   | (with_reducible refine LeO.ite ?_ ?_)
   | (with_reducible refine LeO.bind ?_ (fun _ => ?_))
   | exact ih0 _ _
   | exact foghornref10_Name.mono _ _
   | exact foghornref10_Value.mono _ _
   | exact LeO.none _
   | refine LeO.ite ?_ ?_
   | refine LeO.bind ?_ (fun _ => ?_)
theorem foghornref12_label.mono : ∀ a0 k, LeO (foghornref12_label.f k a0) (foghornref12_label.f (k + 1) a0) := by
 intro a0 k
 have ih0 := foghornref12_label.mono_l k
 unfold foghornref12_label.f
 repeat' first
   | (with_reducible exact ih0 _ _)
   | (with_reducible exact foghornref10_Name.mono _ _)
   | (with_reducible exact foghornref10_Value.mono _ _)
   | (with_reducible exact LeO.refl _)
   | (with_reducible exact LeO.none _)
   | (with_reducible refine LeO.ite ?_ ?_)
   | (with_reducible refine LeO.bind ?_ (fun _ => ?_))
   | exact ih0 _ _
   | exact foghornref10_Name.mono _ _
   | exact foghornref10_Value.mono _ _
   | exact LeO.none _
   | refine LeO.ite ?_ ?_
   | refine LeO.bind ?_ (fun _ => ?_)
def foghornref12_label.T5 : Bool × List (List Nat × List Nat) := (true, [([], []), ([], []), ([0, 1], [0, 1]), ([], []), ([], []), ([4], [4]), ([3, 5], [3, 5]), ([2, 6], [2, 6]), ([], []), ([8, 7, 0, 1, 2, 3, 4, 5, 6, 7, 8], [7, 8])])
def foghornref12_label.B5 : List Nat := [0, 0, 3, 0, 0, 16, 56, 127, 0, 511]
theorem foghornref12_label.tab5 : rtab .any (opsOf Tryz.f77 5) = foghornref12_label.T5 := by kernel_rfl
theorem foghornref12_label.bits5 : waitsOk foghornref12_label.T5.2 foghornref12_label.B5 = true := by kernel_rfl
def foghornref12_label.T6 : Bool × List (List Nat × List Nat) := (true, [([], []), ([], []), ([1], [1]), ([2], [2]), ([3, 3], [3]), ([4], [4]), ([5, 4], [4, 5]), ([6, 4, 4], [4, 6]), ([4, 7], [4, 7]), ([0, 7, 0], [0]), ([8, 9, 0, 1, 2, 3, 4, 5, 6, 7, 8, 9], [8])])
def foghornref12_label.B6 : List Nat := [0, 0, 2, 6, 14, 30, 62, 126, 254, 255, 1023]
theorem foghornref12_label.tab6 : rtab .any (opsOf Tryz.f77 6) = foghornref12_label.T6 := by kernel_rfl
theorem foghornref12_label.bits6 : waitsOk foghornref12_label.T6.2 foghornref12_label.B6 = true := by kernel_rfl
set_option maxHeartbeats 8000000 in
set_option maxRecDepth 100000 in
theorem foghornref12_label.calls (k : Nat) (a0 : ByteArray) (r1 : ByteArray) (r2 : ByteArray) (r3 : Bool) (w : World) (h : foghornref12_label.f k a0 = some (r1, r2, r3)) :
  Calls Tryz.prog 77 #[.string a0] w fun e w' => e = .returned (.tuple #[.agg #[.string r1, .string r2], .bool r3]) ∧ Below w.heap.size w w' := by
 have hu52 := Tryz.underlying52
 have HB := aA (Below.refl w.heap.size w)
 have H : (foghornref12_label.l0 k a0 0) = some (r1, r2, r3) := h
 clear h
 have H' := aA H
 clear H
 go_enter Tryz.func77, Tryz.ntmps77
 go_wp2_with (first | ((with_reducible refine gate_dst (N := 2) rfl ?_); refine box_event ?hg (N := 2) ?hd (cs := #[.string (⟨#[]⟩ : ByteArray), .string (⟨#[]⟩ : ByteArray)]) (t := 52) ?hr ?_; (case hd => rfl); (case hg => rfl); (case hr => first | (go_simp; done) | (go_simp; rfl)); intro gb198 hg w2 hbox hb; have n0_ := aA (below_step mB hb); have n1_ := aA (hbox); have n2_ := aA ((bZ hg mB)); have n3_ := aA ((bZ hg mB)); clear HB; have HB := n0_; have BK198 := n1_; have GW198 := n2_; have GE198 := n3_; clear n0_ n1_ n2_ n3_ hb hbox hg))
 go_loopg [4] k (fun kq v4 w' => ∃ (x4_1 : Int) (x199000_1 : ByteArray) (x199001_1 : ByteArray), v4 = .int .i64 x4_1 ∧ Aside0 (foghornref12_label.l0 kq a0 x4_1 = some (r1, r2, r3)) ∧ Aside0 (kq ≤ k) ∧ Aside0 (w'.heap[gb198]? = some (.cells #[.string x199000_1, .string x199001_1] 52 (0, 0))) ∧ Aside0 (Below w.heap.size w w'))
 case atStart => exact ⟨(0), ((⟨#[]⟩ : ByteArray)), ((⟨#[]⟩ : ByteArray)), (by first | rfl | (simp; done) | (simp [*]; done)), H', ⟨Nat.le_refl _⟩, ⟨by (with_reducible repeat (first | refine blk_drewN ?_ _ | refine blk_drew ?_ | refine blk_alloc ?_ _)); exact BK198.out⟩, ⟨by repeat (first | (with_reducible first | exact HB.out | apply below_alloc | apply pw_below_drewN | apply below_drew1 | refine below_set ?_ GE198.out) | exact HB.out)⟩⟩
 case round =>
  clear H'
  try clear p2
  obtain ⟨x4_1, x199000_1, x199001_1, rfl, HA, HK1, BK198, HB⟩ := hrel
  cases gk with
  | zero => exact absurd HA.out (by simp [foghornref12_label.l0])
  | succ k1 =>
   have H := HA.out
   clear HA
   simp only [foghornref12_label.l0] at H
   by_cases c3 : x4_1 < (a0.size : Int)
   ·rw [if_pos c3] at H
    have c3b0 : decide (x4_1 < (a0.size : Int)) = true := decide_eq_true c3
    clear c3
    by_cases c4 : 0 ≤ x4_1
    ·rw [if_pos c4] at H
     have c4b0 : decide (0 ≤ x4_1) = true := decide_eq_true c4
     clear c4
     by_cases c6 : (bt a0 x4_1) = 61
     ·rw [if_pos c6] at H
      have c6b0 : ((bt a0 x4_1) == 61) = true := beq_iff_eq.mpr c6
      have c6b1 : ((bt a0 x4_1) != 61) = false := bne_eq_false_iff_eq.mpr c6
      clear c6
      have c7b0 := eq_true (of_decide_eq_true (by first | (with_reducible assumption) | assumption) : 0 ≤ x4_1)
      by_cases c8 : x4_1 ≤ (a0.size : Int)
      ·rw [if_pos c8] at H
       have c8b0 := eq_true c8
       have c8b1 := decide_eq_true c8
       clear c8
       obtain ⟨ji9, hji9⟩ : ∃ j_ : Int, (wrap64 (x4_1 + 1)) = j_ := ⟨_, rfl⟩
       replace H : (if 0 ≤ (ji9) then (if (ji9) ≤ (a0.size : Int) then ((foghornref10_Name.f k1 (a0.extract 0 (x4_1 : Int).toNat)).bind fun t200 => (if t200 = true then ((foghornref10_Value.f k1 (a0.extract ((ji9) : Int).toNat a0.size)).bind fun t201 => (some (a0.extract 0 (x4_1 : Int).toNat, a0.extract ((ji9) : Int).toNat a0.size, t201))) else (some (a0.extract 0 (x4_1 : Int).toNat, a0.extract ((ji9) : Int).toNat a0.size, false)))) else (none)) else (none)) = some (r1, r2, r3) := by first | (rw [hji9] at H; exact H) | (simp only [hji9] at H ⊢; exact H)
       have hji9w : (IntKind.i64.wrap (x4_1 + 1)) = ji9 := (i64_w _).trans hji9
       by_cases c10 : 0 ≤ (ji9)
       ·rw [if_pos c10] at H
        have c10b0 := eq_true c10
        have c10b1 := decide_eq_true c10
        clear c10
        by_cases c11 : (ji9) ≤ (a0.size : Int)
        ·rw [if_pos c11] at H
         have c11b0 := eq_true c11
         have c11b1 := decide_eq_true c11
         clear c11
         replace H := Option.bind_eq_some_iff.mp H
         obtain ⟨t200, A120, H⟩ := H
         replace H : (if t200 = true then ((foghornref10_Value.f k1 (a0.extract ((ji9) : Int).toNat a0.size)).bind fun t201 => (some (a0.extract 0 (x4_1 : Int).toNat, a0.extract ((ji9) : Int).toNat a0.size, t201))) else (some (a0.extract 0 (x4_1 : Int).toNat, a0.extract ((ji9) : Int).toNat a0.size, false))) = some (r1, r2, r3) := H
         have A12 := aA A120
         clear A120
         by_cases c13 : t200 = true
         ·subst c13
          have H1 : ((foghornref10_Value.f k1 (a0.extract ((ji9) : Int).toNat a0.size)).bind fun t201 => (some (a0.extract 0 (x4_1 : Int).toNat, a0.extract ((ji9) : Int).toNat a0.size, t201))) = some (r1, r2, r3) := by rw [if_pos rfl] at H; exact H
          clear H
          have H := H1
          clear H1
          replace H := Option.bind_eq_some_iff.mp H
          obtain ⟨t201, A140, H⟩ := H
          replace H : (some (a0.extract 0 (x4_1 : Int).toNat, a0.extract ((ji9) : Int).toNat a0.size, t201)) = some (r1, r2, r3) := H
          have A14 := aA A140
          clear A140
          simp only [Option.some.injEq, Prod.mk.injEq] at H
          obtain ⟨rfl, rfl, rfl⟩ := H
          have p5 : 0 ≤ (x4_1 : Int) := of_decide_eq_true (by first | (with_reducible assumption) | assumption)
          have q5 : x4_1 < (a0.size : Int) := of_decide_eq_true (by first | (with_reducible assumption) | assumption)
          have hx5 := bt_at a0 x4_1
          replace p5 := eq_true p5
          replace q5 := eq_true q5
          try go_wp2
          have n0_ := aA (blk_drew BK198.out)
          have n1_ := aA (below_drew1 HB.out)
          clear BK198
          clear HB
          have BK198 := n0_
          have HB := n1_
          clear n0_ n1_
          refine start_ (n := 10) (S := fun w' => True) (ds := []) (bA 10 0) (by kernel_rfl) rfl rfl trivial (fun hHeld => ?_); refine with_tabW foghornref12_label.tab5 foghornref12_label.bits5 (fun HT_ HW_ => ?_)
          generalize wr.drew = w15 at BK198 HB hHeld ⊢
          refine pure_ (i := 0) (N := some 16) (v := ?_) (a' := ?_) (bA 10 1) rfl rfl (any_of HT_.out (by kernel_rfl)) (fun _ _ _ h => h) (Or.inl ⟨by rfl, ?_⟩) ?_ ?_
          rotate_left
          ·intro w'
           go_simp
           with_reducible rfl
          rotate_left
          ·exact mP
          refine pure_ (i := 1) (N := some 17) (v := ?_) (a' := ?_) (bA 10 3) rfl rfl (any_of HT_.out (by kernel_rfl)) (fun _ _ _ h => h) (Or.inl ⟨by rfl, ?_⟩) ?_ ?_
          rotate_left
          ·intro w'
           go_simp
           with_reducible rfl
          rotate_left
          ·exact mP
          refine pure_ (i := 2) (N := some 18) (v := ?_) (a' := ?_) (bA 10 7) rfl rfl (any_of HT_.out (by kernel_rfl)) (fun _ _ _ h => h) (Or.inl ⟨by rfl, ?_⟩) ?_ ?_
          rotate_left
          ·intro w'
           go_simp
           with_reducible rfl
          rotate_left
          ·exact mP
          refine pure_ (i := 3) (N := some 19) (v := ?_) (a' := ?_) (bA 10 15) rfl rfl (any_of HT_.out (by kernel_rfl)) (fun _ _ _ h => h) (Or.inl ⟨by rfl, ?_⟩) ?_ ?_
          rotate_left
          ·intro w'
           go_simp
           with_reducible rfl
          rotate_left
          ·exact mP
          refine pure_ (i := 4) (N := some 20) (v := ?_) (a' := ?_) (bA 10 31) rfl rfl (any_of HT_.out (by kernel_rfl)) (fun _ _ _ h => h) (Or.inl ⟨by rfl, ?_⟩) ?_ ?_
          rotate_left
          ·intro w'
           go_simp
           with_reducible rfl
          rotate_left
          ·exact mP
          refine pure_ (i := 5) (N := some 21) (v := ?_) (a' := ?_) (bA 10 63) rfl rfl (any_of HT_.out (by kernel_rfl)) (fun _ _ _ h => h) (Or.inl ⟨by rfl, ?_⟩) ?_ ?_
          rotate_left
          ·intro w'
           go_simp
           with_reducible rfl
          rotate_left
          ·exact mP
          refine pure_ (i := 6) (N := some 22) (v := ?_) (a' := ?_) (bA 10 127) rfl rfl (any_of HT_.out (by kernel_rfl)) (fun _ _ _ h => h) (Or.inl ⟨by rfl, ?_⟩) ?_ ?_
          rotate_left
          ·intro w'
           go_simp
           with_reducible rfl
          rotate_left
          ·exact mP
          refine pure_ (i := 7) (N := some 23) (v := ?_) (a' := ?_) (bA 10 255) rfl rfl (any_of HT_.out (by kernel_rfl)) (fun _ _ _ h => h) (Or.inl ⟨by rfl, ?_⟩) ?_ ?_
          rotate_left
          ·intro w'
           go_simp
           with_reducible rfl
          rotate_left
          ·exact mP
          refine one_ (i := 8) (N := some 5) (bA 10 511) rfl rfl (one_of HT_.out (by kernel_rfl)) (by decide) (fun K hK => ?_)
          refine box_step ?hg (N := 5) ?hd (cs := #[.string (⟨#[]⟩ : ByteArray), .string (⟨#[]⟩ : ByteArray)]) (t := 52) ?hr ?_; (case hd => rfl); (case hg => rfl); (case hr => first | (go_simp; done) | (go_simp; rfl))
          intro gb199 hg w16 hbox hb
          have n0_ := aA (bB BK198.out hb)
          have n1_ := aA (below_step (mD1 GE198.out) hb)
          have n2_ := aA (hbox)
          have n3_ := aA ((bZ hg (mD1 GE198.out)))
          have n4_ := aA ((bZ hg (mD1 GE198.out)))
          have n5_ := aA ((bL hg BK198.out))
          have n6_ := aA ((bG hg BK198.out))
          clear BK198
          clear HB
          have BK198 := n0_
          have HB := n1_
          have BK199 := n2_
          have GW199 := n3_
          have GE199 := n4_
          have NB198_199 := n5_
          have NB199_198 := n6_
          clear n0_ n1_ n2_ n3_ n4_ n5_ n6_
          clear hb hbox hg
          refine hK.out _ _ trivial (fun hHeld => ?_)
          clear hK K
          refine norm_ (a' := ?_) ?_ ?_
          rotate_left
          ·show Act.put _ (some 5) _ = _
           simp only [Act.put, List.setIfInBounds_toArray, List.set_cons_zero, List.set_cons_succ, i64_w, i32_w]
           rfl
          refine one_ (i := 9) (N := none) (bA 10 1023) rfl rfl (one_of HT_.out (by kernel_rfl)) (by decide) (fun K hK => ?_)
          have hs17 : w16.cell? ⟨gb199, 0, none⟩ = some (.string (⟨#[]⟩ : ByteArray)) := (blk_cell BK199.out 0).trans rfl
          have hfs17 := blk_frozen BK199.out 0
          have hns17_0 := NB198_199.out
          have hms17_0 := NB199_198.out
          have hs18 : w16.cell? ⟨gb199, 1, none⟩ = some (.string (⟨#[]⟩ : ByteArray)) := (blk_cell BK199.out 1).trans rfl
          have hfs18 := blk_frozen BK199.out 1
          have hns18_0 := NB198_199.out
          have hms18_0 := NB199_198.out
          refine skip_ (w1 := ?_) (by rfl) rfl ?_ ?_
          rotate_left
          ·go_simp
           rfl
          refine hK.out _ _ trivial (fun hHeld => ?_)
          clear hK K
          refine done_ (done_of HT_.out (by kernel_rfl)) ?_
          try go_wp2
          have n0_ : Aside0 (((w16.setCell ⟨gb199, 0, none⟩ (.string (a0.extract 0 (x4_1 : Int).toNat))).setCell ⟨gb199, 1, none⟩ (.string (a0.extract ((ji9) : Int).toNat a0.size))).heap[gb198]? = some (.cells #[.string x199000_1, .string x199001_1] 52 (0, 0))) := ⟨by (with_reducible repeat (first | refine blk_drewN ?_ _ | refine blk_drew ?_ | refine blk_alloc ?_ _)); refine blk_far ?_ NB198_199.out _; (with_reducible repeat (first | refine blk_drewN ?_ _ | refine blk_drew ?_ | refine blk_alloc ?_ _)); refine blk_far ?_ NB198_199.out _; (with_reducible repeat (first | refine blk_drewN ?_ _ | refine blk_drew ?_ | refine blk_alloc ?_ _)); exact BK198.out⟩
          have n1_ : Aside0 (((w16.setCell ⟨gb199, 0, none⟩ (.string (a0.extract 0 (x4_1 : Int).toNat))).setCell ⟨gb199, 1, none⟩ (.string (a0.extract ((ji9) : Int).toNat a0.size))).heap[gb199]? = some (.cells #[.string (a0.extract 0 (x4_1 : Int).toNat), .string (a0.extract ((ji9) : Int).toNat a0.size)] 52 (0, 0))) := ⟨by (with_reducible repeat (first | refine blk_drewN ?_ _ | refine blk_drew ?_ | refine blk_alloc ?_ _)); refine blk_put (cs := #[.string (a0.extract 0 (x4_1 : Int).toNat), .string (⟨#[]⟩ : ByteArray)]) ?_ 1 _ rfl; (with_reducible repeat (first | refine blk_drewN ?_ _ | refine blk_drew ?_ | refine blk_alloc ?_ _)); refine blk_put (cs := #[.string (⟨#[]⟩ : ByteArray), .string (⟨#[]⟩ : ByteArray)]) ?_ 0 _ rfl; (with_reducible repeat (first | refine blk_drewN ?_ _ | refine blk_drew ?_ | refine blk_alloc ?_ _)); exact BK199.out⟩
          have n2_ : Aside0 (Below w.heap.size w ((w16.setCell ⟨gb199, 0, none⟩ (.string (a0.extract 0 (x4_1 : Int).toNat))).setCell ⟨gb199, 1, none⟩ (.string (a0.extract ((ji9) : Int).toNat a0.size)))) := ⟨by repeat (first | (with_reducible first | exact HB.out | apply below_alloc | apply pw_below_drewN | apply below_drew1 | refine below_set ?_ GE198.out | refine below_set ?_ GE199.out) | exact HB.out)⟩
          (try clear BK198)
          (try clear BK199)
          (try clear HB)
          generalize ((w16.setCell ⟨gb199, 0, none⟩ (.string (a0.extract 0 (x4_1 : Int).toNat))).setCell ⟨gb199, 1, none⟩ (.string (a0.extract ((ji9) : Int).toNat a0.size))) = w19 at n0_ n1_ n2_ ⊢
          have BK198 := n0_
          have BK199 := n1_
          have HB := n2_
          clear n0_ n1_ n2_
          have n0_ := aA (blk_drew BK198.out)
          have n1_ := aA (blk_drew BK199.out)
          have n2_ := aA (below_drew1 HB.out)
          clear BK198
          clear BK199
          clear HB
          have BK198 := n0_
          have BK199 := n1_
          have HB := n2_
          clear n0_ n1_ n2_
          refine start_ (n := 11) (S := fun w' => w'.cell? ⟨gb199, 0, none⟩ = some (.string (a0.extract 0 (x4_1 : Int).toNat)) ∧ w'.cell? ⟨gb199, 1, none⟩ = some (.string (a0.extract ((ji9) : Int).toNat a0.size))) (ds := []) (bA 11 0) (by kernel_rfl) rfl rfl (bC2 BK199.out) (fun hHeld => ?_); refine with_tabW foghornref12_label.tab6 foghornref12_label.bits6 (fun HT_ HW_ => ?_)
          generalize w19.drew = w20 at BK198 BK199 HB hHeld ⊢
          refine pure_ (i := 1) (N := some 25) (v := ?_) (a' := ?_) (bA 11 2) rfl rfl (any_of HT_.out (by kernel_rfl)) (fun _ _ _ h => h) (Or.inl ⟨by rfl, ?_⟩) ?_ ?_
          rotate_left
          ·intro w'
           go_simp
           with_reducible rfl
          rotate_left
          ·exact mP
          refine take_ (i := 0) (N := some 24) (v := ?_) (a' := ?_) (bA 11 3) rfl rfl (take_ofW HT_.out HW_.out (by kernel_rfl)) (fun _ _ _ h => h) (Or.inl ⟨by rfl, ?_⟩) hHeld ?_ ?_
          rotate_left
          ·rintro w' ⟨s0, s1⟩
           go_simp
           with_reducible rfl
          rotate_left
          ·exact mP
          refine take_ (i := 2) (N := some 26) (v := ?_) (a' := ?_) (bA 11 7) rfl rfl (take_ofW HT_.out HW_.out (by kernel_rfl)) (fun _ _ _ h => h) (Or.inl ⟨by rfl, ?_⟩) hHeld ?_ ?_
          rotate_left
          ·rintro w' ⟨s0, s1⟩
           go_simp
           with_reducible rfl
          rotate_left
          ·exact mP
          refine one_ (i := 3) (N := some 27) (bA 11 15) rfl rfl (one_of HT_.out (by kernel_rfl)) (by decide) (fun K hK => ?_)
          refine goes_ Tryz.func51 (by kernel_rfl) rfl #[.string (a0.extract 0 (x4_1 : Int).toNat)] (by rfl) rfl rfl mS ?_
          with_reducible refine (foghornref10_Name.calls k1 (a0.extract 0 (x4_1 : Int).toNat) true _ A12.out).mono ?_
          rintro e w' ⟨rfl, ⟨nd, rfl⟩⟩
          refine ⟨_, rfl, ?_⟩
          refine hK.out _ _ (bC2 BK199.out) (fun hHeld => ?_)
          clear hK K
          refine norm_ (a' := ?_) ?_ ?_
          rotate_left
          ·show Act.put _ (some 27) _ = _
           simp only [Act.put, List.setIfInBounds_toArray, List.set_cons_zero, List.set_cons_succ, i64_w, i32_w]
           rfl
          refine pure_ (i := 4) (N := some 28) (v := ?_) (a' := ?_) (bA 11 31) rfl rfl (any_of HT_.out (by kernel_rfl)) (fun _ _ _ h => h) (Or.inl ⟨by rfl, ?_⟩) ?_ ?_
          rotate_left
          ·intro w'
           go_simp
           with_reducible rfl
          rotate_left
          ·exact mP
          refine pure_ (i := 5) (N := some 29) (v := ?_) (a' := ?_) (bA 11 63) rfl rfl (any_of HT_.out (by kernel_rfl)) (fun _ _ _ h => h) (Or.inl ⟨by rfl, ?_⟩) ?_ ?_
          rotate_left
          ·intro w'
           go_simp
           with_reducible rfl
          rotate_left
          ·exact mP
          refine take_ (i := 6) (N := some 30) (v := ?_) (a' := ?_) (bA 11 127) rfl rfl (take_ofW HT_.out HW_.out (by kernel_rfl)) (fun _ _ _ h => h) (Or.inl ⟨by rfl, ?_⟩) hHeld ?_ ?_
          rotate_left
          ·rintro w' ⟨s0, s1⟩
           go_simp
           with_reducible rfl
          rotate_left
          ·exact mP
          refine one_ (i := 7) (N := some 31) (bA 11 255) rfl rfl (one_of HT_.out (by kernel_rfl)) (by decide) (fun K hK => ?_)
          refine goes_ Tryz.func52 (by kernel_rfl) rfl #[.string (a0.extract ((ji9) : Int).toNat a0.size)] (by rfl) rfl rfl (by (try simp only [List.map_toArray, List.map_cons, List.map_nil]); first | done | (simp only [hji9]; rfl) | rfl | (simp only [List.length_drop, List.length_take]; rfl)) ?_
          with_reducible refine (foghornref10_Value.calls k1 (a0.extract ((ji9) : Int).toNat a0.size) t201 _ A14.out).mono ?_
          rintro e w' ⟨rfl, ⟨nd, rfl⟩⟩
          refine ⟨_, rfl, ?_⟩
          refine hK.out _ _ (bC2 BK199.out) (fun hHeld => ?_)
          clear hK K
          refine norm_ (a' := ?_) ?_ ?_
          rotate_left
          ·show Act.put _ (some 31) _ = _
           simp only [Act.put, List.setIfInBounds_toArray, List.set_cons_zero, List.set_cons_succ, i64_w, i32_w]
           rfl
          refine pure_ (i := 8) (N := some 32) (v := ?_) (a' := ?_) (bA 11 511) rfl rfl (any_of HT_.out (by kernel_rfl)) (fun _ _ _ h => h) (Or.inl ⟨by rfl, ?_⟩) ?_ ?_
          rotate_left
          ·intro w'
           go_simp
           with_reducible rfl
          rotate_left
          ·exact mP
          refine one_ (i := 9) (N := none) (bA 11 1023) rfl rfl (one_of HT_.out (by kernel_rfl)) (by decide) (fun K hK => ?_)
          have hs21 : w20.cell? ⟨gb198, 0, none⟩ = some (.string x199000_1) := (blk_cell BK198.out 0).trans rfl
          have hfs21 := blk_frozen BK198.out 0
          have hns21_1 := NB199_198.out
          have hms21_1 := NB198_199.out
          have hs22 : w20.cell? ⟨gb198, 1, none⟩ = some (.string x199001_1) := (blk_cell BK198.out 1).trans rfl
          have hfs22 := blk_frozen BK198.out 1
          have hns22_1 := NB199_198.out
          have hms22_1 := NB198_199.out
          refine skip_ (w1 := ?_) (by rfl) rfl ?_ ?_
          rotate_left
          ·go_simp
           rfl
          refine hK.out _ _ ⟨((cell_far (p := ⟨gb198, _, none⟩) NB199_198.out _).trans (((cell_far (p := ⟨gb198, _, none⟩) NB199_198.out _).trans (hHeld.1)))), ((cell_far (p := ⟨gb198, _, none⟩) NB199_198.out _).trans (((cell_far (p := ⟨gb198, _, none⟩) NB199_198.out _).trans (hHeld.2))))⟩ (fun hHeld => ?_)
          clear hK K
          refine pure_ (i := 10) (N := some 3) (v := ?_) (a' := ?_) (bA 11 2047) rfl rfl (any_of HT_.out (by kernel_rfl)) (fun _ _ _ h => h) (Or.inl ⟨by rfl, ?_⟩) ?_ ?_
          rotate_left
          ·intro w'
           go_simp
           with_reducible rfl
          rotate_left
          ·exact mP
          refine done_ (done_of HT_.out (by kernel_rfl)) ?_
          try go_wp2
          refine bodyPost_ret (results_ct rfl _ _ gb198 52 #[.string (a0.extract 0 (x4_1 : Int).toNat), .string (a0.extract ((ji9) : Int).toNat a0.size)] (0, 0) _ rfl (by (with_reducible repeat (first | refine blk_drewN ?_ _ | refine blk_drew ?_ | refine blk_alloc ?_ _)); have h_ := BK198.out; exact pK 1 (pK 0 (h_))) Tryz.underlying52 rfl (by kernel_rfl)) rfl ?_
          exact ⟨by first | rfl | (simp [errW_none, errW_some] <;> rfl) | (simp only [← hji9]; first | rfl | (simp [errW_none, errW_some] <;> rfl)) | (simp [*, errW_none, errW_some] <;> rfl), by repeat (first | (with_reducible first | exact HB.out | apply below_alloc | apply pw_below_drewN | apply below_drew1 | refine below_set ?_ GE198.out | refine below_set ?_ GE199.out) | exact HB.out)⟩
         ·replace c13 := Bool.eq_false_iff.mpr c13
          subst c13
          have H1 : (some (a0.extract 0 (x4_1 : Int).toNat, a0.extract ((ji9) : Int).toNat a0.size, false)) = some (r1, r2, r3) := by rw [if_neg (show ¬ (false = true) by decide)] at H; exact H
          clear H
          have H := H1
          clear H1
          simp only [Option.some.injEq, Prod.mk.injEq] at H
          obtain ⟨rfl, rfl, rfl⟩ := H
          have p5 : 0 ≤ (x4_1 : Int) := of_decide_eq_true (by first | (with_reducible assumption) | assumption)
          have q5 : x4_1 < (a0.size : Int) := of_decide_eq_true (by first | (with_reducible assumption) | assumption)
          have hx5 := bt_at a0 x4_1
          replace p5 := eq_true p5
          replace q5 := eq_true q5
          try go_wp2
          have n0_ := aA (blk_drew BK198.out)
          have n1_ := aA (below_drew1 HB.out)
          clear BK198
          clear HB
          have BK198 := n0_
          have HB := n1_
          clear n0_ n1_
          refine start_ (n := 10) (S := fun w' => True) (ds := []) (bA 10 0) (by kernel_rfl) rfl rfl trivial (fun hHeld => ?_); refine with_tabW foghornref12_label.tab5 foghornref12_label.bits5 (fun HT_ HW_ => ?_)
          generalize wr.drew = w23 at BK198 HB hHeld ⊢
          refine pure_ (i := 0) (N := some 16) (v := ?_) (a' := ?_) (bA 10 1) rfl rfl (any_of HT_.out (by kernel_rfl)) (fun _ _ _ h => h) (Or.inl ⟨by rfl, ?_⟩) ?_ ?_
          rotate_left
          ·intro w'
           go_simp
           with_reducible rfl
          rotate_left
          ·exact mP
          refine pure_ (i := 1) (N := some 17) (v := ?_) (a' := ?_) (bA 10 3) rfl rfl (any_of HT_.out (by kernel_rfl)) (fun _ _ _ h => h) (Or.inl ⟨by rfl, ?_⟩) ?_ ?_
          rotate_left
          ·intro w'
           go_simp
           with_reducible rfl
          rotate_left
          ·exact mP
          refine pure_ (i := 2) (N := some 18) (v := ?_) (a' := ?_) (bA 10 7) rfl rfl (any_of HT_.out (by kernel_rfl)) (fun _ _ _ h => h) (Or.inl ⟨by rfl, ?_⟩) ?_ ?_
          rotate_left
          ·intro w'
           go_simp
           with_reducible rfl
          rotate_left
          ·exact mP
          refine pure_ (i := 3) (N := some 19) (v := ?_) (a' := ?_) (bA 10 15) rfl rfl (any_of HT_.out (by kernel_rfl)) (fun _ _ _ h => h) (Or.inl ⟨by rfl, ?_⟩) ?_ ?_
          rotate_left
          ·intro w'
           go_simp
           with_reducible rfl
          rotate_left
          ·exact mP
          refine pure_ (i := 4) (N := some 20) (v := ?_) (a' := ?_) (bA 10 31) rfl rfl (any_of HT_.out (by kernel_rfl)) (fun _ _ _ h => h) (Or.inl ⟨by rfl, ?_⟩) ?_ ?_
          rotate_left
          ·intro w'
           go_simp
           with_reducible rfl
          rotate_left
          ·exact mP
          refine pure_ (i := 5) (N := some 21) (v := ?_) (a' := ?_) (bA 10 63) rfl rfl (any_of HT_.out (by kernel_rfl)) (fun _ _ _ h => h) (Or.inl ⟨by rfl, ?_⟩) ?_ ?_
          rotate_left
          ·intro w'
           go_simp
           with_reducible rfl
          rotate_left
          ·exact mP
          refine pure_ (i := 6) (N := some 22) (v := ?_) (a' := ?_) (bA 10 127) rfl rfl (any_of HT_.out (by kernel_rfl)) (fun _ _ _ h => h) (Or.inl ⟨by rfl, ?_⟩) ?_ ?_
          rotate_left
          ·intro w'
           go_simp
           with_reducible rfl
          rotate_left
          ·exact mP
          refine pure_ (i := 7) (N := some 23) (v := ?_) (a' := ?_) (bA 10 255) rfl rfl (any_of HT_.out (by kernel_rfl)) (fun _ _ _ h => h) (Or.inl ⟨by rfl, ?_⟩) ?_ ?_
          rotate_left
          ·intro w'
           go_simp
           with_reducible rfl
          rotate_left
          ·exact mP
          refine one_ (i := 8) (N := some 5) (bA 10 511) rfl rfl (one_of HT_.out (by kernel_rfl)) (by decide) (fun K hK => ?_)
          refine box_step ?hg (N := 5) ?hd (cs := #[.string (⟨#[]⟩ : ByteArray), .string (⟨#[]⟩ : ByteArray)]) (t := 52) ?hr ?_; (case hd => rfl); (case hg => rfl); (case hr => first | (go_simp; done) | (go_simp; rfl))
          intro gb199 hg w24 hbox hb
          have n0_ := aA (bB BK198.out hb)
          have n1_ := aA (below_step (mD1 GE198.out) hb)
          have n2_ := aA (hbox)
          have n3_ := aA ((bZ hg (mD1 GE198.out)))
          have n4_ := aA ((bZ hg (mD1 GE198.out)))
          have n5_ := aA ((bL hg BK198.out))
          have n6_ := aA ((bG hg BK198.out))
          clear BK198
          clear HB
          have BK198 := n0_
          have HB := n1_
          have BK199 := n2_
          have GW199 := n3_
          have GE199 := n4_
          have NB198_199 := n5_
          have NB199_198 := n6_
          clear n0_ n1_ n2_ n3_ n4_ n5_ n6_
          clear hb hbox hg
          refine hK.out _ _ trivial (fun hHeld => ?_)
          clear hK K
          refine norm_ (a' := ?_) ?_ ?_
          rotate_left
          ·show Act.put _ (some 5) _ = _
           simp only [Act.put, List.setIfInBounds_toArray, List.set_cons_zero, List.set_cons_succ, i64_w, i32_w]
           rfl
          refine one_ (i := 9) (N := none) (bA 10 1023) rfl rfl (one_of HT_.out (by kernel_rfl)) (by decide) (fun K hK => ?_)
          have hs25 : w24.cell? ⟨gb199, 0, none⟩ = some (.string (⟨#[]⟩ : ByteArray)) := (blk_cell BK199.out 0).trans rfl
          have hfs25 := blk_frozen BK199.out 0
          have hns25_0 := NB198_199.out
          have hms25_0 := NB199_198.out
          have hs26 : w24.cell? ⟨gb199, 1, none⟩ = some (.string (⟨#[]⟩ : ByteArray)) := (blk_cell BK199.out 1).trans rfl
          have hfs26 := blk_frozen BK199.out 1
          have hns26_0 := NB198_199.out
          have hms26_0 := NB199_198.out
          refine skip_ (w1 := ?_) (by rfl) rfl ?_ ?_
          rotate_left
          ·go_simp
           rfl
          refine hK.out _ _ trivial (fun hHeld => ?_)
          clear hK K
          refine done_ (done_of HT_.out (by kernel_rfl)) ?_
          try go_wp2
          have n0_ : Aside0 (((w24.setCell ⟨gb199, 0, none⟩ (.string (a0.extract 0 (x4_1 : Int).toNat))).setCell ⟨gb199, 1, none⟩ (.string (a0.extract ((ji9) : Int).toNat a0.size))).heap[gb198]? = some (.cells #[.string x199000_1, .string x199001_1] 52 (0, 0))) := ⟨by (with_reducible repeat (first | refine blk_drewN ?_ _ | refine blk_drew ?_ | refine blk_alloc ?_ _)); refine blk_far ?_ NB198_199.out _; (with_reducible repeat (first | refine blk_drewN ?_ _ | refine blk_drew ?_ | refine blk_alloc ?_ _)); refine blk_far ?_ NB198_199.out _; (with_reducible repeat (first | refine blk_drewN ?_ _ | refine blk_drew ?_ | refine blk_alloc ?_ _)); exact BK198.out⟩
          have n1_ : Aside0 (((w24.setCell ⟨gb199, 0, none⟩ (.string (a0.extract 0 (x4_1 : Int).toNat))).setCell ⟨gb199, 1, none⟩ (.string (a0.extract ((ji9) : Int).toNat a0.size))).heap[gb199]? = some (.cells #[.string (a0.extract 0 (x4_1 : Int).toNat), .string (a0.extract ((ji9) : Int).toNat a0.size)] 52 (0, 0))) := ⟨by (with_reducible repeat (first | refine blk_drewN ?_ _ | refine blk_drew ?_ | refine blk_alloc ?_ _)); refine blk_put (cs := #[.string (a0.extract 0 (x4_1 : Int).toNat), .string (⟨#[]⟩ : ByteArray)]) ?_ 1 _ rfl; (with_reducible repeat (first | refine blk_drewN ?_ _ | refine blk_drew ?_ | refine blk_alloc ?_ _)); refine blk_put (cs := #[.string (⟨#[]⟩ : ByteArray), .string (⟨#[]⟩ : ByteArray)]) ?_ 0 _ rfl; (with_reducible repeat (first | refine blk_drewN ?_ _ | refine blk_drew ?_ | refine blk_alloc ?_ _)); exact BK199.out⟩
          have n2_ : Aside0 (Below w.heap.size w ((w24.setCell ⟨gb199, 0, none⟩ (.string (a0.extract 0 (x4_1 : Int).toNat))).setCell ⟨gb199, 1, none⟩ (.string (a0.extract ((ji9) : Int).toNat a0.size)))) := ⟨by repeat (first | (with_reducible first | exact HB.out | apply below_alloc | apply pw_below_drewN | apply below_drew1 | refine below_set ?_ GE198.out | refine below_set ?_ GE199.out) | exact HB.out)⟩
          (try clear BK198)
          (try clear BK199)
          (try clear HB)
          generalize ((w24.setCell ⟨gb199, 0, none⟩ (.string (a0.extract 0 (x4_1 : Int).toNat))).setCell ⟨gb199, 1, none⟩ (.string (a0.extract ((ji9) : Int).toNat a0.size))) = w27 at n0_ n1_ n2_ ⊢
          have BK198 := n0_
          have BK199 := n1_
          have HB := n2_
          clear n0_ n1_ n2_
          have n0_ := aA (blk_drew BK198.out)
          have n1_ := aA (blk_drew BK199.out)
          have n2_ := aA (below_drew1 HB.out)
          clear BK198
          clear BK199
          clear HB
          have BK198 := n0_
          have BK199 := n1_
          have HB := n2_
          clear n0_ n1_ n2_
          refine start_ (n := 11) (S := fun w' => w'.cell? ⟨gb199, 0, none⟩ = some (.string (a0.extract 0 (x4_1 : Int).toNat)) ∧ w'.cell? ⟨gb199, 1, none⟩ = some (.string (a0.extract ((ji9) : Int).toNat a0.size))) (ds := []) (bA 11 0) (by kernel_rfl) rfl rfl (bC2 BK199.out) (fun hHeld => ?_); refine with_tabW foghornref12_label.tab6 foghornref12_label.bits6 (fun HT_ HW_ => ?_)
          generalize w27.drew = w28 at BK198 BK199 HB hHeld ⊢
          refine pure_ (i := 1) (N := some 25) (v := ?_) (a' := ?_) (bA 11 2) rfl rfl (any_of HT_.out (by kernel_rfl)) (fun _ _ _ h => h) (Or.inl ⟨by rfl, ?_⟩) ?_ ?_
          rotate_left
          ·intro w'
           go_simp
           with_reducible rfl
          rotate_left
          ·exact mP
          refine take_ (i := 0) (N := some 24) (v := ?_) (a' := ?_) (bA 11 3) rfl rfl (take_ofW HT_.out HW_.out (by kernel_rfl)) (fun _ _ _ h => h) (Or.inl ⟨by rfl, ?_⟩) hHeld ?_ ?_
          rotate_left
          ·rintro w' ⟨s0, s1⟩
           go_simp
           with_reducible rfl
          rotate_left
          ·exact mP
          refine take_ (i := 2) (N := some 26) (v := ?_) (a' := ?_) (bA 11 7) rfl rfl (take_ofW HT_.out HW_.out (by kernel_rfl)) (fun _ _ _ h => h) (Or.inl ⟨by rfl, ?_⟩) hHeld ?_ ?_
          rotate_left
          ·rintro w' ⟨s0, s1⟩
           go_simp
           with_reducible rfl
          rotate_left
          ·exact mP
          refine one_ (i := 3) (N := some 27) (bA 11 15) rfl rfl (one_of HT_.out (by kernel_rfl)) (by decide) (fun K hK => ?_)
          refine goes_ Tryz.func51 (by kernel_rfl) rfl #[.string (a0.extract 0 (x4_1 : Int).toNat)] (by rfl) rfl rfl mS ?_
          with_reducible refine (foghornref10_Name.calls k1 (a0.extract 0 (x4_1 : Int).toNat) false _ A12.out).mono ?_
          rintro e w' ⟨rfl, ⟨nd, rfl⟩⟩
          refine ⟨_, rfl, ?_⟩
          refine hK.out _ _ (bC2 BK199.out) (fun hHeld => ?_)
          clear hK K
          refine norm_ (a' := ?_) ?_ ?_
          rotate_left
          ·show Act.put _ (some 27) _ = _
           simp only [Act.put, List.setIfInBounds_toArray, List.set_cons_zero, List.set_cons_succ, i64_w, i32_w]
           rfl
          refine pure_ (i := 4) (N := some 28) (v := ?_) (a' := ?_) (bA 11 31) rfl rfl (any_of HT_.out (by kernel_rfl)) (fun _ _ _ h => h) (Or.inl ⟨by rfl, ?_⟩) ?_ ?_
          rotate_left
          ·intro w'
           go_simp
           with_reducible rfl
          rotate_left
          ·exact mP
          refine pure_ (i := 5) (N := some 29) (v := undef) (a' := ?_) (bA 11 63) rfl rfl (any_of HT_.out (by kernel_rfl)) (fun _ _ _ h => h) (Or.inr ⟨by rfl, rfl⟩) ?_ ?_
          rotate_left
          ·exact mP
          refine pure_ (i := 6) (N := some 30) (v := undef) (a' := ?_) (bA 11 127) rfl rfl (any_of HT_.out (by kernel_rfl)) (fun _ _ _ h => h) (Or.inr ⟨by rfl, rfl⟩) ?_ ?_
          rotate_left
          ·exact mP
          refine pure_ (i := 7) (N := some 31) (v := undef) (a' := ?_) (bA 11 255) rfl rfl (any_of HT_.out (by kernel_rfl)) (fun _ _ _ h => h) (Or.inr ⟨by rfl, rfl⟩) ?_ ?_
          rotate_left
          ·exact mP
          refine pure_ (i := 8) (N := some 32) (v := ?_) (a' := ?_) (bA 11 511) rfl rfl (any_of HT_.out (by kernel_rfl)) (fun _ _ _ h => h) (Or.inl ⟨by rfl, ?_⟩) ?_ ?_
          rotate_left
          ·intro w'
           go_simp
           with_reducible rfl
          rotate_left
          ·exact mP
          refine one_ (i := 9) (N := none) (bA 11 1023) rfl rfl (one_of HT_.out (by kernel_rfl)) (by decide) (fun K hK => ?_)
          have hs29 : w28.cell? ⟨gb198, 0, none⟩ = some (.string x199000_1) := (blk_cell BK198.out 0).trans rfl
          have hfs29 := blk_frozen BK198.out 0
          have hns29_1 := NB199_198.out
          have hms29_1 := NB198_199.out
          have hs30 : w28.cell? ⟨gb198, 1, none⟩ = some (.string x199001_1) := (blk_cell BK198.out 1).trans rfl
          have hfs30 := blk_frozen BK198.out 1
          have hns30_1 := NB199_198.out
          have hms30_1 := NB198_199.out
          refine skip_ (w1 := ?_) (by rfl) rfl ?_ ?_
          rotate_left
          ·go_simp
           rfl
          refine hK.out _ _ ⟨((cell_far (p := ⟨gb198, _, none⟩) NB199_198.out _).trans (((cell_far (p := ⟨gb198, _, none⟩) NB199_198.out _).trans (hHeld.1)))), ((cell_far (p := ⟨gb198, _, none⟩) NB199_198.out _).trans (((cell_far (p := ⟨gb198, _, none⟩) NB199_198.out _).trans (hHeld.2))))⟩ (fun hHeld => ?_)
          clear hK K
          refine pure_ (i := 10) (N := some 3) (v := ?_) (a' := ?_) (bA 11 2047) rfl rfl (any_of HT_.out (by kernel_rfl)) (fun _ _ _ h => h) (Or.inl ⟨by rfl, ?_⟩) ?_ ?_
          rotate_left
          ·intro w'
           go_simp
           with_reducible rfl
          rotate_left
          ·exact mP
          refine done_ (done_of HT_.out (by kernel_rfl)) ?_
          try go_wp2
          refine bodyPost_ret (results_ct rfl _ _ gb198 52 #[.string (a0.extract 0 (x4_1 : Int).toNat), .string (a0.extract ((ji9) : Int).toNat a0.size)] (0, 0) _ rfl (by (with_reducible repeat (first | refine blk_drewN ?_ _ | refine blk_drew ?_ | refine blk_alloc ?_ _)); have h_ := BK198.out; exact pK 1 (pK 0 (h_))) Tryz.underlying52 rfl (by kernel_rfl)) rfl ?_
          exact ⟨by first | rfl | (simp [errW_none, errW_some] <;> rfl) | (simp only [← hji9]; first | rfl | (simp [errW_none, errW_some] <;> rfl)) | (simp [*, errW_none, errW_some] <;> rfl), by repeat (first | (with_reducible first | exact HB.out | apply below_alloc | apply pw_below_drewN | apply below_drew1 | refine below_set ?_ GE198.out | refine below_set ?_ GE199.out) | exact HB.out)⟩
        ·rw [if_neg c11] at H
         exact absurd H (by simp)
       ·rw [if_neg c10] at H
        exact absurd H (by simp)
      ·rw [if_neg c8] at H
       exact absurd H (by simp)
     ·rw [if_neg c6] at H
      have c6b0 : ((bt a0 x4_1) == 61) = false := beq_eq_false_iff_ne.mpr c6
      have c6b1 : ((bt a0 x4_1) != 61) = true := bne_iff_ne.mpr c6
      have H' := aA H
      clear H
      have p5 : 0 ≤ (x4_1 : Int) := of_decide_eq_true (by first | (with_reducible assumption) | assumption)
      have q5 : x4_1 < (a0.size : Int) := of_decide_eq_true (by first | (with_reducible assumption) | assumption)
      have hx5 := bt_at a0 x4_1
      replace p5 := eq_true p5
      replace q5 := eq_true q5
      go_wp2
      go_roundg k1
      case measure => have := HK1.out; omega
      case rel => exact ⟨(wrap64 (x4_1 + 1)), (x199000_1), (x199001_1), (by first | rfl | (simp; done) | (simp [*]; done)), H', ⟨by have := HK1.out; omega⟩, ⟨by (with_reducible repeat (first | refine blk_drewN ?_ _ | refine blk_drew ?_ | refine blk_alloc ?_ _)); exact BK198.out⟩, ⟨by repeat (first | (with_reducible first | exact HB.out | apply below_alloc | apply pw_below_drewN | apply below_drew1 | refine below_set ?_ GE198.out) | exact HB.out)⟩⟩
    ·rw [if_neg c4] at H
     exact absurd H (by simp)
   ·rw [if_neg c3] at H
    have c3b0 : decide (x4_1 < (a0.size : Int)) = false := decide_eq_false c3
    clear c3
    simp only [Option.some.injEq, Prod.mk.injEq] at H
    obtain ⟨rfl, rfl, rfl⟩ := H
    obtain ⟨hcz31_0, hcz31_1⟩ := bC2 BK198.out
    obtain ⟨hfz31_0, hfz31_1⟩ := bF2 BK198.out
    go_wp2
    refine bodyPost_ret (results_ct rfl _ _ gb198 52 #[.string (⟨#[]⟩ : ByteArray), .string (⟨#[]⟩ : ByteArray)] (0, 0) _ rfl (by (with_reducible repeat (first | refine blk_drewN ?_ _ | refine blk_drew ?_ | refine blk_alloc ?_ _)); have h_ := BK198.out; exact pK 1 (pK 0 (h_))) Tryz.underlying52 rfl (by kernel_rfl)) rfl ?_
    exact ⟨by first | rfl | (simp [errW_none, errW_some] <;> rfl) | (simp [*, errW_none, errW_some] <;> rfl), by repeat (first | (with_reducible first | exact HB.out | apply below_alloc | apply pw_below_drewN | apply below_drew1 | refine below_set ?_ GE198.out) | exact HB.out)⟩
end Go.Proofs.YtjfknmlchdifjaaGreatDoorQ.P
namespace Go.Proofs.YtjfknmlchdifjaaGreatDoor
open Go.RowKit
attribute [local go_sem high] ext_size ext_cell ext_frozen alloc_cell alloc_frozen
theorem name_len {s : ByteArray} (h : ∀ k (hk : k < s.size), azB (s[k]'hk) = true) : nameB s = (decide (1 ≤ s.size) && decide (s.size ≤ 8)) := by
  unfold nameB
  rw [all_good h, Bool.true_and]
theorem refName_any (s : ByteArray) (w : World) (hs : s.size ≤ maxLen) :
    Calls Tryz.prog 51 #[.string s] w fun e w' => e = .returned (.bool (nameB s)) ∧ Below w.heap.size w w' := by
  unfold maxLen at hs
  go_enter Tryz.func51, Tryz.ntmps51
  go_wp2
  go_loopw [3] (fun i wr => ∃ k : Nat, k ≤ s.size ∧ i = .int .i64 k ∧ (∀ j (hj : j < s.size), j < k → azB (s[j]'hj) = true) ∧ Below w.heap.size w wr) (fun i _ => s.size - (intOf i).toNat)
  case atStart => exact ⟨0, Nat.zero_le _, rfl, fun j _ hj => absurd hj (by omega), Below.refl _ _⟩
  case round =>
    obtain ⟨k, hk, rfl, hall, hbel⟩ := hrel
    have HA := Lib.hid hall
    clear hall
    obtain ⟨xr, rfl⟩ := ext_of hbel
    clear hbel
    by_cases hlt : k < s.size
    · go_wp2
      all_goals (try go_quiet (fail)); (try go_wp2)
      all_goals first
        | (go_ret; exact ⟨ret_bool (name_no hlt (az_no (by omega))), (by repeat (first | exact Below.refl _ _ | apply bal | apply bext | apply bdr | apply bdrN | (refine bst ?_ _ (by simp only [ext_size, size_alloc, size_set]; omega))))⟩)
        | (refine ⟨⟨k + 1, by omega, by go_num, fun j hj hjk => ?_, (by repeat (first | exact Below.refl _ _ | apply bal | apply bext | apply bdr | apply bdrN | (refine bst ?_ _ (by simp only [ext_size, size_alloc, size_set]; omega))))⟩, by simp [intOf]; omega⟩
           rcases Nat.lt_succ_iff_lt_or_eq.1 hjk with h | rfl
           · exact HA.out j hj h
           · exact az_yes (by omega))
    · have hr := name_len (fun j hj => HA.out j hj (by omega))
      have HR := Lib.hid hr
      clear hr
      go_wp2
      all_goals
        go_ret
        refine ⟨ret_bool ?_, (by repeat (first | exact Below.refl _ _ | apply bal | apply bext | apply bdr | apply bdrN | (refine bst ?_ _ (by simp only [ext_size, size_alloc, size_set]; omega))))⟩
        rw [HR.out]
        first | (rw [Bool.eq_iff_iff]; simp; omega) | (simp [*]; done) | (simp; omega)
theorem val_len {s : ByteArray} (h : ∀ k (hk : k < s.size), avB (s[k]'hk) = true) : valB s = decide (s.size ≤ 8) := by
  unfold valB
  rw [all_good h, Bool.true_and]
set_option maxHeartbeats 1000000 in
theorem refValue_any (s : ByteArray) (w : World) (hs : s.size ≤ maxLen) :
    Calls Tryz.prog 52 #[.string s] w fun e w' => e = .returned (.bool (valB s)) ∧ Below w.heap.size w w' := by
  unfold maxLen at hs
  go_enter Tryz.func52, Tryz.ntmps52
  go_wp2
  go_loopw [3] (fun i wr => ∃ k : Nat, k ≤ s.size ∧ i = .int .i64 k ∧ (∀ j (hj : j < s.size), j < k → avB (s[j]'hj) = true) ∧ Below w.heap.size w wr) (fun i _ => s.size - (intOf i).toNat)
  case atStart => exact ⟨0, Nat.zero_le _, rfl, fun j _ hj => absurd hj (by omega), Below.refl _ _⟩
  case round =>
    obtain ⟨k, hk, rfl, hall, hbel⟩ := hrel
    have HA := Lib.hid hall
    clear hall
    obtain ⟨xr, rfl⟩ := ext_of hbel
    clear hbel
    by_cases hlt : k < s.size
    · go_wp2
      all_goals first
        | (go_ret; exact ⟨ret_bool (val_no hlt (av_no (by first | omega | (rename_i h; simp at h; omega) | (simp_all; omega)))), (by repeat (first | exact Below.refl _ _ | apply bal | apply bext | apply bdr | apply bdrN | (refine bst ?_ _ (by simp only [ext_size, size_alloc, size_set]; omega))))⟩)
        | (refine ⟨⟨k + 1, by omega, by go_num, fun j hj hjk => ?_, (by repeat (first | exact Below.refl _ _ | apply bal | apply bext | apply bdr | apply bdrN | (refine bst ?_ _ (by simp only [ext_size, size_alloc, size_set]; omega))))⟩, by simp [intOf]; omega⟩
           rcases Nat.lt_succ_iff_lt_or_eq.1 hjk with h | rfl
           · exact HA.out j hj h
           · exact av_yes (by first | omega | (rename_i h _; simp at h; omega) | (rename_i h; simp at h; omega)))
    · have hr := val_len (fun j hj => HA.out j hj (by omega))
      have HR := Lib.hid hr
      clear hr
      go_wp2
      all_goals
        go_ret
        refine ⟨ret_bool ?_, (by repeat (first | exact Below.refl _ _ | apply bal | apply bext | apply bdr | apply bdrN | (refine bst ?_ _ (by simp only [ext_size, size_alloc, size_set]; omega))))⟩
        rw [HR.out]
        first | (rw [Bool.eq_iff_iff]; simp; omega) | (simp [*]; done) | (simp; omega)
theorem each_no {xs : List Lab} {k : Nat} (h : k < xs.length) (hp : labB xs[k] = false) : false = eachB xs := by
  unfold eachB
  have : xs.any (fun x => !labB x) = true := List.any_eq_true.2 ⟨xs[k], List.getElem_mem h, by rw [hp]; rfl⟩
  rw [this]
  simp
theorem each_all {xs : List Lab} (h : ∀ k (hk : k < xs.length), labB xs[k] = true) : eachB xs = (decide (1 ≤ xs.length) && decide (xs.length ≤ 3)) := by
  unfold eachB
  have : xs.any (fun x => !labB x) = false := by
    rw [List.any_eq_false]
    intro x hx
    obtain ⟨k, hk, rfl⟩ := List.mem_iff_getElem.1 hx
    simp [h k hk]
  rw [this]
  simp
theorem refEach_any (v : Value) (xs : List Lab) (w : World) (hS : SlAt w v 2 xs.length (labsC xs)) (hL : LabsOk xs) :
    Calls Tryz.prog 95 #[v] w fun e w' => e = .returned (.bool (eachB xs)) ∧ Below w.heap.size w w' := by
  obtain ⟨a, c, rfl, hnc, hcm⟩ := hS.form
  have hm := hS.le
  have HS := Lib.hid hS
  have HL := Lib.hid hL
  unfold maxLen at hm
  clear hS hL
  go_enter Tryz.func95, Tryz.ntmps95
  go_wp2
  go_loopw [7] (fun i wr => ∃ k : Nat, k ≤ xs.length ∧ i = .int .i64 k ∧ (∀ j (hj : j < xs.length), j < k → labB xs[j] = true) ∧ Below w.heap.size w wr) (fun i _ => xs.length - (intOf i).toNat)
  case atStart => exact ⟨0, Nat.zero_le _, rfl, fun j _ hj => absurd hj (by omega), Below.refl _ _⟩
  case round =>
    obtain ⟨k, hk, rfl, hall, hbel⟩ := hrel
    have HA := Lib.hid hall
    clear hall
    obtain ⟨xr, rfl⟩ := ext_of hbel
    clear hbel
    by_cases hlt : k < xs.length
    · obtain ⟨b, o, rfl, hbl, hcell⟩ := HS.out.at (by omega)
      have g0 := labs_get xs k hlt
      have k0 : w.cell? ⟨b, o + k * 2, none⟩ = some (.string xs[k].name) := hcell _ _ g0.1
      have k1 : w.cell? ⟨b, o + k * 2 + 1, none⟩ = some (.string xs[k].value) := by rw [Nat.add_assoc]; exact hcell _ _ g0.2
      have hok := HL.out xs[k] (List.getElem_mem hlt)
      obtain ⟨x, hx⟩ : ∃ x, x = xs[k] := ⟨_, rfl⟩
      rw [← hx] at k0 k1 hok
      have HX := Lib.hid hx
      have HN := Lib.hid fun W => refName_any x.name W hok.1
      have HV := Lib.hid fun W => refValue_any x.value W hok.2
      clear hcell g0 hx hok
      cases hn : nameB x.name
      · rw [hn] at HN
        have HB := Lib.hid (show labB x = false by unfold labB; rw [hn]; rfl)
        clear hn
        go_wp2_with fail
        refine (HN.out _).mono ?_
        rintro e w' ⟨rfl, hb⟩
        obtain ⟨y1, rfl⟩ := ext_of hb
        clear hb
        go_wp2_with fail
        go_ret
        exact ⟨ret_bool (each_no hlt (by rw [← HX.out]; exact HB.out)), (by repeat (first | exact Below.refl _ _ | apply bal | apply bext | apply bdr | apply bdrN | (refine bst ?_ _ (by simp only [ext_size, size_alloc, size_set]; omega))))⟩
      · rw [hn] at HN
        cases hv : valB x.value
        · rw [hv] at HV
          have HB := Lib.hid (show labB x = false by unfold labB; rw [hn, hv]; rfl)
          clear hn hv
          go_wp2_with fail
          refine (HN.out _).mono ?_
          rintro e w' ⟨rfl, hb⟩
          obtain ⟨y1, rfl⟩ := ext_of hb
          clear hb
          go_wp2_with fail
          refine (HV.out _).mono ?_
          rintro e w' ⟨rfl, hb⟩
          obtain ⟨y2, rfl⟩ := ext_of hb
          clear hb
          go_wp2_with fail
          go_ret
          exact ⟨ret_bool (each_no hlt (by rw [← HX.out]; exact HB.out)), (by repeat (first | exact Below.refl _ _ | apply bal | apply bext | apply bdr | apply bdrN | (refine bst ?_ _ (by simp only [ext_size, size_alloc, size_set]; omega))))⟩
        · rw [hv] at HV
          have HB := Lib.hid (show labB x = true by unfold labB; rw [hn, hv]; rfl)
          clear hn hv
          go_wp2_with fail
          refine (HN.out _).mono ?_
          rintro e w' ⟨rfl, hb⟩
          obtain ⟨y1, rfl⟩ := ext_of hb
          clear hb
          go_wp2_with fail
          refine (HV.out _).mono ?_
          rintro e w' ⟨rfl, hb⟩
          obtain ⟨y2, rfl⟩ := ext_of hb
          clear hb
          go_wp2_with fail
          refine ⟨⟨k + 1, by omega, by go_num, fun j hj hjk => ?_, (by repeat (first | exact Below.refl _ _ | apply bal | apply bext | apply bdr | apply bdrN | (refine bst ?_ _ (by simp only [ext_size, size_alloc, size_set]; omega))))⟩, by simp [intOf]; omega⟩
          rcases Nat.lt_succ_iff_lt_or_eq.1 hjk with h | rfl
          · exact HA.out j hj h
          · rw [← HX.out]; exact HB.out
    · have hr := each_all (fun j hj => HA.out j hj (by omega))
      have HR := Lib.hid hr
      clear hr
      go_wp2
      all_goals
        go_ret
        refine ⟨ret_bool ?_, (by repeat (first | exact Below.refl _ _ | apply bal | apply bext | apply bdr | apply bdrN | (refine bst ?_ _ (by simp only [ext_size, size_alloc, size_set]; omega))))⟩
        rw [HR.out]
        first | (rw [Bool.eq_iff_iff]; simp; omega) | (simp [*]; done) | (simp; omega)
end Go.Proofs.YtjfknmlchdifjaaGreatDoor
namespace Go.Proofs.YtjfknmlchdifjaaGreatDoorQ.P
open Go.RowKit Go.Proofs.YtjfknmlchdifjaaGreatDoorW.PrintWords Go.Proofs.YtjfknmlchdifjaaGreatDoor
def foghornref10_each.f (l0 : List S52) : Option Bool := if labsOkB l0 = true then some (eachB (l0.map toLab)) else none
theorem foghornref10_each.calls (A0 : Option Addr) (c0 : Nat) (l0 : List S52) (r : Bool) (w : World) (hr0 : Kd.C k52 w A0 l0.length l0) (hc0 : l0.length ≤ c0) (h : foghornref10_each.f l0 = some r) :
    Calls Tryz.prog 95 #[.slice A0 l0.length c0] w fun e w' => e = .returned (.bool r) ∧ Below w.heap.size w w' := by
  obtain ⟨h1, rfl⟩ := if_some h
  exact refEach_any _ _ w (labs_c hr0 hc0) (labs_ok h1)
def foghornref10_Right.f (l0 : List S52) : Option Bool := if labsOkB l0 = true then some (labsB (l0.map toLab)) else none
end Go.Proofs.YtjfknmlchdifjaaGreatDoorQ.P
namespace Go.Proofs.YtjfknmlchdifjaaGreatDoorQ.P
open Go.RowKit Go.Proofs.YtjfknmlchdifjaaGreatDoorW.PrintWords Go.Proofs.YtjfknmlchdifjaaGreatDoorW.PrintLast Go.Proofs.YtjfknmlchdifjaaGreatDoorW.PrintMore
attribute [local go_sem] max2_int min2_int max_two min_two max_three min_three max_four min_four
mutual
def foghornref10_Sort.l0 : Nat → List (S52) → List (S52) → Int → Int → Option ((List (S52)) × Int)
 | 0, _, _, _, _ => none
 | k + 1, x4, x15, x16, x17 => if x17 < x16 then (if 0 ≤ x17 then (if x17 < (x15.length : Int) then (foghornref10_Sort.l1 k (([] : List (S52))) false x15 x16 x17 x4 (x4.length : Int) 0 ((rd_T52 x15 x17).f0) ((rd_T52 x15 x17).f1)) else (none)) else (none)) else (some (x4, 0))
def foghornref10_Sort.l1 : Nat → List (S52) → Bool → List (S52) → Int → Int → List (S52) → Int → Int → ByteArray → ByteArray → Option ((List (S52)) × Int)
 | 0, _, _, _, _, _, _, _, _, _, _ => none
 | k + 1, x7, x8, x15, x16, x17, x22, x23, x24, x208000, x208001 => if x24 < x23 then (if 0 ≤ x24 then (if x24 < (x22.length : Int) then (if x208000.toList = ((rd_T52 x22 x24).f0).toList then (some (([] : List (S52)), 11)) else (if x8 = true then (if x7.length < 4398046511104 then (foghornref10_Sort.l1 k (x7 ++ [(⟨(rd_T52 x22 x24).f0, (rd_T52 x22 x24).f1⟩ : S52)]) x8 x15 x16 x17 x22 x23 (wrap64 (x24 + 1)) x208000 x208001) else (none)) else (if (Op.bytesLess x208000.toList (((rd_T52 x22 x24).f0).toList)) = true then (if x7.length < 4398046511104 then ((some (x7 ++ [(⟨x208000, x208001⟩ : S52)] : List (S52))).bind fun y219 => (if y219.length < 4398046511104 then (foghornref10_Sort.l1 k (y219 ++ [(⟨(rd_T52 x22 x24).f0, (rd_T52 x22 x24).f1⟩ : S52)]) true x15 x16 x17 x22 x23 (wrap64 (x24 + 1)) x208000 x208001) else (none))) else (none)) else (if x7.length < 4398046511104 then (foghornref10_Sort.l1 k (x7 ++ [(⟨(rd_T52 x22 x24).f0, (rd_T52 x22 x24).f1⟩ : S52)]) x8 x15 x16 x17 x22 x23 (wrap64 (x24 + 1)) x208000 x208001) else (none))))) else (none)) else (none)) else (if x8 = true then (foghornref10_Sort.l0 k x7 x15 x16 (wrap64 (x17 + 1))) else (if x7.length < 4398046511104 then (foghornref10_Sort.l0 k (x7 ++ [(⟨x208000, x208001⟩ : S52)]) x15 x16 (wrap64 (x17 + 1))) else (none)))
end
def foghornref10_Sort.f (k : Nat) (l0 : List (S52)) : Option ((List (S52)) × Int) := (foghornref10_each.f l0).bind fun t202 => (if t202 = true then (foghornref10_Sort.l0 k (([] : List (S52))) l0 (l0.length : Int) 0) else (some (([] : List (S52)), 1)))
theorem foghornref10_Sort.mono_l : ∀ k, (∀ y0 y1 y2 y3, LeO (foghornref10_Sort.l0 k y0 y1 y2 y3) (foghornref10_Sort.l0 (k + 1) y0 y1 y2 y3)) ∧ (∀ y0 y1 y2 y3 y4 y5 y6 y7 y8 y9, LeO (foghornref10_Sort.l1 k y0 y1 y2 y3 y4 y5 y6 y7 y8 y9) (foghornref10_Sort.l1 (k + 1) y0 y1 y2 y3 y4 y5 y6 y7 y8 y9))
 | 0 => ⟨fun _ _ _ _ r h => by simp [foghornref10_Sort.l0] at h, fun _ _ _ _ _ _ _ _ _ _ r h => by simp [foghornref10_Sort.l1] at h⟩
 | k + 1 => by
  obtain ⟨ih0, ih1⟩ := foghornref10_Sort.mono_l k
  refine ⟨?_, ?_⟩
  ·intro y0 y1 y2 y3
   unfold foghornref10_Sort.l0
   repeat' first
   | (with_reducible exact ih0 _ _ _ _)
   | (with_reducible exact ih1 _ _ _ _ _ _ _ _ _ _)
   | (with_reducible exact LeO.refl _)
   | (with_reducible exact LeO.none _)
   | (with_reducible refine LeO.ite ?_ ?_)
   | (with_reducible refine LeO.bind ?_ (fun _ => ?_))
   | exact ih0 _ _ _ _
   | exact ih1 _ _ _ _ _ _ _ _ _ _
   | exact LeO.none _
   | refine LeO.ite ?_ ?_
   | refine LeO.bind ?_ (fun _ => ?_)
  ·intro y0 y1 y2 y3 y4 y5 y6 y7 y8 y9
   unfold foghornref10_Sort.l1
   repeat' first
   | (with_reducible exact ih0 _ _ _ _)
   | (with_reducible exact ih1 _ _ _ _ _ _ _ _ _ _)
   | (with_reducible exact LeO.refl _)
   | (with_reducible exact LeO.none _)
   | (with_reducible refine LeO.ite ?_ ?_)
   | (with_reducible refine LeO.bind ?_ (fun _ => ?_))
   | exact ih0 _ _ _ _
   | exact ih1 _ _ _ _ _ _ _ _ _ _
   | exact LeO.none _
   | refine LeO.ite ?_ ?_
   | refine LeO.bind ?_ (fun _ => ?_)
theorem foghornref10_Sort.mono : ∀ a0 k, LeO (foghornref10_Sort.f k a0) (foghornref10_Sort.f (k + 1) a0) := by
 intro a0 k
 obtain ⟨ih0, ih1⟩ := foghornref10_Sort.mono_l k
 unfold foghornref10_Sort.f
 repeat' first
   | (with_reducible exact ih0 _ _ _ _)
   | (with_reducible exact ih1 _ _ _ _ _ _ _ _ _ _)
   | (with_reducible exact LeO.refl _)
   | (with_reducible exact LeO.none _)
   | (with_reducible refine LeO.ite ?_ ?_)
   | (with_reducible refine LeO.bind ?_ (fun _ => ?_))
   | exact ih0 _ _ _ _
   | exact ih1 _ _ _ _ _ _ _ _ _ _
   | exact LeO.none _
   | refine LeO.ite ?_ ?_
   | refine LeO.bind ?_ (fun _ => ?_)
set_option maxHeartbeats 8000000 in
set_option maxRecDepth 100000 in
theorem foghornref10_Sort.calls (k : Nat) (A0 : Option Addr) (c0 : Nat) (l0 : List (S52)) (r1 : List (S52)) (r2 : Int) (w : World) (hr0 : Kd.C k52 w A0 l0.length l0) (hc0 : l0.length ≤ c0) (h : foghornref10_Sort.f k l0 = some (r1, r2)) :
  Calls Tryz.prog 78 #[.slice A0 l0.length c0] w fun e w' => ∃ v0_ : Value, e = .returned (.tuple #[v0_, .int .i64 r2]) ∧ Kd.R k52 52 w' w.heap.size (fun _ => True) v0_ r1 ∧ Below w.heap.size w w' := by
 have hu52 := Tryz.underlying52
 have HR0 := aA hr0
 have HC0 := aA hc0
 clear hr0 hc0
 have HB := aA (Below.refl w.heap.size w)
 have H : ((foghornref10_each.f l0).bind fun t202 => (if t202 = true then (foghornref10_Sort.l0 k (([] : List (S52))) l0 (l0.length : Int) 0) else (some (([] : List (S52)), 1)))) = some (r1, r2) := h
 clear h
 replace H := Option.bind_eq_some_iff.mp H
 obtain ⟨t202, A20, H⟩ := H
 replace H : (if t202 = true then (foghornref10_Sort.l0 k (([] : List (S52))) l0 (l0.length : Int) 0) else (some (([] : List (S52)), 1))) = some (r1, r2) := H
 have A2 := aA A20
 clear A20
 by_cases c3 : t202 = true
 ·subst c3
  have H1 : (foghornref10_Sort.l0 k (([] : List (S52))) l0 (l0.length : Int) 0) = some (r1, r2) := by rw [if_pos rfl] at H; exact H
  clear H
  have H := H1
  clear H1
  obtain ⟨y203, hy203⟩ : ∃ y_ : List (S52), y_ = (([] : List (S52))) := ⟨_, rfl⟩
  replace H : (foghornref10_Sort.l0 k y203 l0 (l0.length : Int) 0) = some (r1, r2) := by first | (rw [hy203]; with_reducible exact H) | (have H2_ := (Option.bind_some _ _).symm.trans H; rw [hy203]; with_reducible exact H2_) | (have H2_ := (Option.bind_some _ _).symm.trans H; with_reducible exact H2_) | with_reducible exact H | (rw [hy203]; exact H) | exact H
  have Ny203 := aA hy203
  clear hy203
  have H' := aA H
  clear H
  go_enter Tryz.func78, Tryz.ntmps78
  go_wp2_with (first | ((with_reducible refine gate_callee (f := 95) rfl ?_); refine goesL_ (some 12) rfl rfl Tryz.func95 (by kernel_rfl) rfl #[.slice A0 l0.length c0] rfl mS ?_; (with_reducible refine (foghornref10_each.calls _ _ l0 true _ ?side1 ?side2 A2.out).mono ?_); (case side1 => exact mC (HR0.out)); (case side2 => exact HC0.out); rintro e w4 ⟨rfl, hb⟩; refine ⟨_, rfl, ?_⟩; have n0_ := aA (below_step mB hb); clear HB; have HB := n0_; clear n0_; (try clear hb); (try clear hb2); (try clear hk); (try clear hi)) | ((with_reducible refine gate_dst (N := 14) rfl ?_); refine Kd.R_lit k52 _ 52 ?hg (N := 14) ?hd (xs := ([] : List (S52))) (inner := []) (ok := fun _ => True) (okp := fun _ => True) ?hr ?hp (fun _ hk => hk) trivial (Below.refl _ _) (Nat.le_refl _) (by simp) ?_; (case hd => rfl); (case hg => rfl); (case hr => first | (go_simp; done) | (go_simp; rfl)); (case hp => exact (Reps.none _ _)); intro v204 w5 ho6 hb hg_ hnew_; clear hg_ hnew_; (first | rw [← Ny203.out] at ho6 | (simp only [Int.reduceToNat] at ho6; rw [← Ny203.out] at ho6)); have n0_ := aA (Kd.R_lower ho6 (below_size mB)); have n1_ := aA (below_step mB hb); clear HB; have HO205 := n0_; have HB := n1_; clear n0_ n1_ hb ho6))
  go_loopg [4, 17] k (fun kq v4 v17 w' => ∃ (x4_1 : List (S52)) (x17_1 : Int), v17 = .int .i64 x17_1 ∧ Aside0 (foghornref10_Sort.l0 kq x4_1 l0 (l0.length : Int) x17_1 = some (r1, r2)) ∧ Aside0 (kq ≤ k) ∧ Aside0 (Kd.R k52 52 w' w.heap.size (fun _ => True) v4 x4_1) ∧ Aside0 (Below w.heap.size w w'))
  case atStart => exact ⟨(y203), (0), (by first | rfl | (simp; done) | (simp [*]; done)), H', ⟨Nat.le_refl _⟩, ⟨by (with_reducible repeat (first | apply Kd.R_alloc | apply Kd.R_drewN | apply Kd.R_drew)); exact HO205.out⟩, ⟨by repeat (first | (with_reducible first | exact HB.out | apply below_alloc | apply pw_below_drewN | apply below_drew1) | exact HB.out)⟩⟩
  case round =>
   clear H'
   try clear p2
   try clear c3
   obtain ⟨x4_1, x17_1, rfl, HA, HK1, HO_4, HB⟩ := hrel
   cases gk with
   | zero => exact absurd HA.out (by simp [foghornref10_Sort.l0])
   | succ k1 =>
    have H := HA.out
    clear HA
    simp only [foghornref10_Sort.l0] at H
    by_cases c7 : x17_1 < (l0.length : Int)
    ·rw [if_pos c7] at H
     have c7b0 : decide (x17_1 < (l0.length : Int)) = true := decide_eq_true c7
     clear c7
     by_cases c8 : 0 ≤ x17_1
     ·rw [if_pos c8] at H
      have c8b0 : decide (0 ≤ x17_1) = true := decide_eq_true c8
      clear c8
      by_cases c9 : x17_1 < (l0.length : Int)
      ·rw [if_pos c9] at H
       have c9b0 : decide (x17_1 < (l0.length : Int)) = true := decide_eq_true c9
       clear c9
       obtain ⟨y208, hy208⟩ : ∃ y_ : List (S52), y_ = (([] : List (S52))) := ⟨_, rfl⟩
       replace H : (foghornref10_Sort.l1 k1 y208 false l0 (l0.length : Int) x17_1 x4_1 (x4_1.length : Int) 0 ((rd_T52 l0 x17_1).f0) ((rd_T52 l0 x17_1).f1)) = some (r1, r2) := by first | (rw [hy208]; with_reducible exact H) | (have H2_ := (Option.bind_some _ _).symm.trans H; rw [hy208]; with_reducible exact H2_) | (have H2_ := (Option.bind_some _ _).symm.trans H; with_reducible exact H2_) | with_reducible exact H | (rw [hy208]; exact H) | exact H
       have Ny208 := aA hy208
       clear hy208
       have H' := aA H
       clear H
       have p206 : 0 ≤ (x17_1 : Int) := of_decide_eq_true (by first | (with_reducible assumption) | assumption)
       have q206 : x17_1 < (l0.length : Int) := of_decide_eq_true (by first | (with_reducible assumption) | assumption)
       obtain ⟨ad206, e206, hx206_0, hx206_1⟩ := at_T52 HR0.out x17_1 p206 q206
       cases e206
       replace hx206_0 := (HB.out.cell (World.block_lt_of_cell? w _ hx206_0)).trans hx206_0
       replace hx206_1 := (HB.out.cell (World.block_lt_of_cell? w _ hx206_1)).trans hx206_1
       replace p206 := eq_true p206
       replace q206 := eq_true q206
       go_wp2_with (first | ((with_reducible refine gate_dst (N := 6) rfl ?_); refine box_event ?hg (N := 6) ?hd (cs := #[.string (⟨#[]⟩ : ByteArray), .string (⟨#[]⟩ : ByteArray)]) (t := 52) ?hr ?_; (case hd => rfl); (case hg => rfl); (case hr => first | (go_simp; done) | (go_simp; rfl)); intro gb207 hg w10 hbox hb; have n0_ := aA (Kd.R_below (Kd.R_elderB (mR HO_4.out) gb207 (Nat.le_of_eq hg.symm)) hb); have n1_ := aA (below_step mB hb); have n2_ := aA (hbox); have n3_ := aA ((bZ hg mB)); have n4_ := aA ((bZ hg mB)); clear HO_4 HB; have HO_4 := n0_; have HB := n1_; have BK207 := n2_; have GW207 := n3_; have GE207 := n4_; clear n0_ n1_ n2_ n3_ n4_ hb hbox hg; obtain ⟨hcz11_0, hcz11_1⟩ := bC2 BK207.out; obtain ⟨hfz11_0, hfz11_1⟩ := bF2 BK207.out) | ((with_reducible refine gate_dst (N := 21) rfl ?_); refine Kd.R_lit k52 _ 52 ?hg (N := 21) ?hd (xs := ([] : List (S52))) (inner := []) (ok := fun _ => True) (okp := fun _ => True) ?hr ?hp (fun _ hk => hk) trivial (Below.refl _ _) (Nat.le_refl _) (by simp) ?_; (case hd => rfl); (case hg => rfl); (case hr => first | (go_simp; done) | (go_simp; rfl)); (case hp => exact (Reps.none _ _)); intro v209 w12 ho13 hb hg_ hnew_; clear hg_ hnew_; (first | rw [← Ny208.out] at ho13 | (simp only [Int.reduceToNat] at ho13; rw [← Ny208.out] at ho13)); have n0_ := aA (Kd.R_elder' (by (with_reducible repeat (first | apply Kd.R_alloc | apply Kd.R_drewN | apply Kd.R_drew)); exact (Kd.R_mono (rF 1 (rF 0 (Kd.R_mono HO_4.out (fun k_ hk => (⟨hk, hk.2⟩ : _ ∧ k_ ≠ gb207))))) (fun _ h_ => h_.1))) (Kd.R_base ho13) hb); have n1_ := aA (Kd.R_lower (Kd.R_newB (Kd.R_new' ho13 (Kd.R_lt (by (with_reducible repeat (first | apply Kd.R_alloc | apply Kd.R_drewN | apply Kd.R_drew)); exact (Kd.R_mono (rF 1 (rF 0 (Kd.R_mono HO_4.out (fun k_ hk => (⟨hk, hk.2⟩ : _ ∧ k_ ≠ gb207))))) (fun _ h_ => h_.1))))) (g := gb207) (o := .cells #[.string ((rd_T52 l0 x17_1).f0), .string ((rd_T52 l0 x17_1).f1)] 52 (0, 0)) (by (with_reducible repeat (first | refine blk_drewN ?_ _ | refine blk_drew ?_ | refine blk_alloc ?_ _)); have h_ := BK207.out; exact pK 1 (pK 0 (h_)))) (below_size (mD1 GE207.out))); have n2_ := aA (blk_below (g := gb207) (o := .cells #[.string ((rd_T52 l0 x17_1).f0), .string ((rd_T52 l0 x17_1).f1)] 52 (0, 0)) (by (with_reducible repeat (first | refine blk_drewN ?_ _ | refine blk_drew ?_ | refine blk_alloc ?_ _)); have h_ := BK207.out; exact pK 1 (pK 0 (h_))) hb); have n3_ := aA (below_step (mD1 GE207.out) hb); clear HO_4 BK207 HB; have HO_4 := n0_; have HO210 := n1_; have BK207 := n2_; have HB := n3_; clear n0_ n1_ n2_ n3_ hb ho13; obtain ⟨Ao14, co14, eo14⟩ := Kd.R_slice HO_4.out; subst eo14))
       go_loopg [7, 8, 24] k1 (fun kq v7 v8 v24 w' => ∃ (x7_2 : List (S52)) (x8_2 : Bool) (x24_2 : Int), v8 = .bool x8_2 ∧ v24 = .int .i64 x24_2 ∧ Aside0 (foghornref10_Sort.l1 kq x7_2 x8_2 l0 (l0.length : Int) x17_1 x4_1 (x4_1.length : Int) x24_2 ((rd_T52 l0 x17_1).f0) ((rd_T52 l0 x17_1).f1) = some (r1, r2)) ∧ Aside0 (kq ≤ k1) ∧ Aside0 (Kd.R k52 52 w' w.heap.size (fun k_ => some k_ ≠ ((.slice Ao14 x4_1.length co14) : Value).ownBlock ∧ k_ ≠ gb207) v7 x7_2) ∧ Aside0 (Kd.R k52 52 w' w.heap.size (fun k_ => some k_ ≠ (v7 : Value).ownBlock ∧ k_ ≠ gb207) (.slice Ao14 x4_1.length co14) x4_1) ∧ Aside0 (w'.heap[gb207]? = some (.cells #[.string ((rd_T52 l0 x17_1).f0), .string ((rd_T52 l0 x17_1).f1)] 52 (0, 0))) ∧ Aside0 (Below w.heap.size w w'))
       case atStart => exact ⟨(y208), (false), (0), (by first | rfl | (simp; done) | (simp [*]; done)), (by first | rfl | (simp; done) | (simp [*]; done)), H', ⟨Nat.le_refl _⟩, ⟨by (with_reducible repeat (first | apply Kd.R_alloc | apply Kd.R_drewN | apply Kd.R_drew)); exact Kd.R_mono HO210.out (fun _ hk => ⟨hk.1.2, hk.2⟩)⟩, ⟨by (with_reducible repeat (first | apply Kd.R_alloc | apply Kd.R_drewN | apply Kd.R_drew)); exact Kd.R_mono HO_4.out (fun _ hk => ⟨hk.2, hk.1.2⟩)⟩, ⟨by (with_reducible repeat (first | refine blk_drewN ?_ _ | refine blk_drew ?_ | refine blk_alloc ?_ _)); exact BK207.out⟩, ⟨by repeat (first | (with_reducible first | exact HB.out | apply below_alloc | apply pw_below_drewN | apply below_drew1 | refine below_set ?_ GE207.out) | exact HB.out)⟩⟩
       case round =>
        clear H'
        try clear p2
        try clear q2
        try clear hx2
        try clear c3
        try clear c7
        try clear c7b0
        try clear c8
        try clear c8b0
        try clear c9
        try clear c9b0
        try clear hcz11_0 hcz11_1
        try clear hfz11_0 hfz11_1
        try clear hx206_0
        try clear hx206_1
        try clear p2
        try clear p206
        try clear q206
        obtain ⟨x7_2, x8_2, x24_2, rfl, rfl, HA, HK2, HO_7, HO_22, BK207, HB⟩ := hrel
        cases gk with
        | zero => exact absurd HA.out (by simp [foghornref10_Sort.l1])
        | succ k2 =>
         have H := HA.out
         clear HA
         simp only [foghornref10_Sort.l1] at H
         by_cases c15 : x24_2 < (x4_1.length : Int)
         ·rw [if_pos c15] at H
          have c15b0 : decide (x24_2 < (x4_1.length : Int)) = true := decide_eq_true c15
          clear c15
          by_cases c16 : 0 ≤ x24_2
          ·rw [if_pos c16] at H
           have c16b0 : decide (0 ≤ x24_2) = true := decide_eq_true c16
           clear c16
           by_cases c17 : x24_2 < (x4_1.length : Int)
           ·rw [if_pos c17] at H
            have c17b0 : decide (x24_2 < (x4_1.length : Int)) = true := decide_eq_true c17
            clear c17
            by_cases c18 : ((rd_T52 l0 x17_1).f0).toList = ((rd_T52 x4_1 x24_2).f0).toList
            ·rw [if_pos c18] at H
             have c18b0 : (((rd_T52 l0 x17_1).f0).toList == ((rd_T52 x4_1 x24_2).f0).toList) = true := beq_iff_eq.mpr c18
             have c18b1 : (((rd_T52 l0 x17_1).f0).toList != ((rd_T52 x4_1 x24_2).f0).toList) = false := bne_eq_false_iff_eq.mpr c18
             clear c18
             simp only [Option.some.injEq, Prod.mk.injEq] at H
             obtain ⟨rfl, rfl⟩ := H
             have p214 : 0 ≤ (x24_2 : Int) := of_decide_eq_true (by first | (with_reducible assumption) | assumption)
             have q214 : x24_2 < (x4_1.length : Int) := of_decide_eq_true (by first | (with_reducible assumption) | assumption)
             obtain ⟨ad214, e214, hx214_0, hx214_1⟩ := at_T52 (Kd.R_reads' HO_22.out).2.2 x24_2 p214 q214
             cases e214
             replace p214 := eq_true p214
             replace q214 := eq_true q214
             go_wp2_with (first | ((with_reducible refine gate_dst (N := 10) rfl ?_); refine box_event ?hg (N := 10) ?hd (cs := #[.string (⟨#[]⟩ : ByteArray), .string (⟨#[]⟩ : ByteArray)]) (t := 52) ?hr ?_; (case hd => rfl); (case hg => rfl); (case hr => first | (go_simp; done) | (go_simp; rfl)); intro gb215 hg w19 hbox hb; have n0_ := aA (Kd.R_below (Kd.R_elderB (mR HO_7.out) gb215 (Nat.le_of_eq hg.symm)) hb); have n1_ := aA (Kd.R_below (Kd.R_elderB (mR HO_22.out) gb215 (Nat.le_of_eq hg.symm)) hb); have n2_ := aA (bB BK207.out hb); have n3_ := aA (below_step (mD1 GE207.out) hb); have n4_ := aA (hbox); have n5_ := aA ((bZ hg (mD1 GE207.out))); have n6_ := aA ((bZ hg (mD1 GE207.out))); have n7_ := aA ((bL hg BK207.out)); have n8_ := aA ((bG hg BK207.out)); clear HO_7 HO_22 BK207 HB; have HO_7 := n0_; have HO_22 := n1_; have BK207 := n2_; have HB := n3_; have BK215 := n4_; have GW215 := n5_; have GE215 := n6_; have NB207_215 := n7_; have NB215_207 := n8_; clear n0_ n1_ n2_ n3_ n4_ n5_ n6_ n7_ n8_ hb hbox hg; have hnb20 := NB215_207.out; have hnc20 := NB207_215.out; obtain ⟨hcz21_0, hcz21_1⟩ := bC2 BK215.out; obtain ⟨hfz21_0, hfz21_1⟩ := bF2 BK215.out; obtain ⟨hcz22_0, hcz22_1⟩ := bC2 BK207.out; obtain ⟨hfz22_0, hfz22_1⟩ := bF2 BK207.out))
             go_ret2
             exact ⟨_, by first | rfl | (simp [errW_none, errW_some] <;> rfl) | (simp [*, errW_none, errW_some] <;> rfl), by first | exact Kd.R_nil _ _ _ _ _ | exact Kd.N_nil _ _ _ _ _ | exact Kd.V_nil _ _ _ _ _ | exact Kd.Q_nil _ _ _ _ _ | exact Kd.S_nil _ _ _ _ _, by repeat (first | (with_reducible first | exact HB.out | apply below_alloc | apply pw_below_drewN | apply below_drew1 | refine below_set ?_ GE207.out | refine below_set ?_ GE215.out) | exact HB.out)⟩
            ·rw [if_neg c18] at H
             have c18b0 : (((rd_T52 l0 x17_1).f0).toList == ((rd_T52 x4_1 x24_2).f0).toList) = false := beq_eq_false_iff_ne.mpr c18
             have c18b1 : (((rd_T52 l0 x17_1).f0).toList != ((rd_T52 x4_1 x24_2).f0).toList) = true := bne_iff_ne.mpr c18
             by_cases c23 : x8_2 = true
             ·subst c23
              have H1 : (if x7_2.length < 4398046511104 then (foghornref10_Sort.l1 k2 (x7_2 ++ [(⟨(rd_T52 x4_1 x24_2).f0, (rd_T52 x4_1 x24_2).f1⟩ : S52)]) true l0 (l0.length : Int) x17_1 x4_1 (x4_1.length : Int) (wrap64 (x24_2 + 1)) ((rd_T52 l0 x17_1).f0) ((rd_T52 l0 x17_1).f1)) else (none)) = some (r1, r2) := by rw [if_pos rfl] at H; exact H
              clear H
              have H := H1
              clear H1
              by_cases c24 : x7_2.length < 4398046511104
              ·rw [if_pos c24] at H
               have LMc24 := aA c24
               clear c24
               obtain ⟨y216, hy216⟩ : ∃ y_ : List (S52), y_ = (x7_2 ++ [(⟨(rd_T52 x4_1 x24_2).f0, (rd_T52 x4_1 x24_2).f1⟩ : S52)]) := ⟨_, rfl⟩
               replace H : (foghornref10_Sort.l1 k2 y216 true l0 (l0.length : Int) x17_1 x4_1 (x4_1.length : Int) (wrap64 (x24_2 + 1)) ((rd_T52 l0 x17_1).f0) ((rd_T52 l0 x17_1).f1)) = some (r1, r2) := by first | (rw [hy216]; with_reducible exact H) | (have H2_ := (Option.bind_some _ _).symm.trans H; rw [hy216]; with_reducible exact H2_) | (have H2_ := (Option.bind_some _ _).symm.trans H; with_reducible exact H2_) | with_reducible exact H | (rw [hy216]; exact H) | exact H
               have Ny216 := aA hy216
               clear hy216
               have H' := aA H
               clear H
               have p214 : 0 ≤ (x24_2 : Int) := of_decide_eq_true (by first | (with_reducible assumption) | assumption)
               have q214 : x24_2 < (x4_1.length : Int) := of_decide_eq_true (by first | (with_reducible assumption) | assumption)
               obtain ⟨ad214, e214, hx214_0, hx214_1⟩ := at_T52 (Kd.R_reads' HO_22.out).2.2 x24_2 p214 q214
               cases e214
               replace p214 := eq_true p214
               replace q214 := eq_true q214
               go_wp2_with (first | ((with_reducible refine gate_dst (N := 10) rfl ?_); refine box_event ?hg (N := 10) ?hd (cs := #[.string (⟨#[]⟩ : ByteArray), .string (⟨#[]⟩ : ByteArray)]) (t := 52) ?hr ?_; (case hd => rfl); (case hg => rfl); (case hr => first | (go_simp; done) | (go_simp; rfl)); intro gb215 hg w25 hbox hb; have n0_ := aA (Kd.R_below (Kd.R_elderB (mR HO_7.out) gb215 (Nat.le_of_eq hg.symm)) hb); have n1_ := aA (Kd.R_below (Kd.R_elderB (mR HO_22.out) gb215 (Nat.le_of_eq hg.symm)) hb); have n2_ := aA (bB BK207.out hb); have n3_ := aA (below_step (mD1 GE207.out) hb); have n4_ := aA (hbox); have n5_ := aA ((bZ hg (mD1 GE207.out))); have n6_ := aA ((bZ hg (mD1 GE207.out))); have n7_ := aA ((bL hg BK207.out)); have n8_ := aA ((bG hg BK207.out)); clear HO_7 HO_22 BK207 HB; have HO_7 := n0_; have HO_22 := n1_; have BK207 := n2_; have HB := n3_; have BK215 := n4_; have GW215 := n5_; have GE215 := n6_; have NB207_215 := n7_; have NB215_207 := n8_; clear n0_ n1_ n2_ n3_ n4_ n5_ n6_ n7_ n8_ hb hbox hg; have hnb26 := NB215_207.out; have hnc26 := NB207_215.out; obtain ⟨hcz27_0, hcz27_1⟩ := bC2 BK215.out; obtain ⟨hfz27_0, hfz27_1⟩ := bF2 BK215.out; obtain ⟨hcz28_0, hcz28_1⟩ := bC2 BK207.out; obtain ⟨hfz28_0, hfz28_1⟩ := bF2 BK207.out) | ((with_reducible refine gate_builtin (b := .append) (xs := #[.tmp 46, .tmp 48]) rfl ?_); at_builtin; refine Kd.R_append k52 (w0 := w) w.heap.size rfl (.tmp 46) (.tmp 48) 22 52 (.agg #[(.string ⟨#[]⟩), (.string ⟨#[]⟩)]) 32 rfl Tryz.underlying22 info52 rfl (by decide) (by omega) u7 x7_2 (⟨(rd_T52 x4_1 x24_2).f0, (rd_T52 x4_1 x24_2).f1⟩ : S52) [.string ((rd_T52 x4_1 x24_2).f0), .string ((rd_T52 x4_1 x24_2).f1)] (fun k_ => some k_ ≠ (.slice (some ad214) x4_1.length co14 : Value).ownBlock ∧ k_ ≠ gb207 ∧ k_ ≠ gb215) (fun _ => False) rfl (by first | (go_simp; done) | (go_simp; rfl)) ?aP (fun _ hk => hk.elim) ?aF ?aO ?aB ?aS ?aL ?_; (case aP => exact k52_mkM _ _ _ (⟨(rd_T52 x4_1 x24_2).f0, (rd_T52 x4_1 x24_2).f1⟩ : S52)); (case aB => exact (mD2 GE207.out GE215.out)); (case aF => exact (fun k_ hk => ⟨Kd.fresh' (Kd.R_lt (by (with_reducible repeat (first | apply Kd.R_alloc | apply Kd.R_drewN | apply Kd.R_drew)); exact (Kd.R_mono (rF 1 (rF 0 (Kd.R_mono HO_22.out (fun k_ hk => (⟨hk, hk.2⟩ : _ ∧ k_ ≠ gb215))))) (fun _ h_ => h_.1)))) k_ hk, Kd.freshB (g := gb207) (o := .cells #[.string ((rd_T52 l0 x17_1).f0), .string ((rd_T52 l0 x17_1).f1)] 52 (0, 0)) (by (with_reducible repeat (first | refine blk_drewN ?_ _ | refine blk_drew ?_ | refine blk_alloc ?_ _)); refine blk_far ?_ NB207_215.out _; (with_reducible repeat (first | refine blk_drewN ?_ _ | refine blk_drew ?_ | refine blk_alloc ?_ _)); refine blk_far ?_ NB207_215.out _; (with_reducible repeat (first | refine blk_drewN ?_ _ | refine blk_drew ?_ | refine blk_alloc ?_ _)); exact BK207.out) k_ hk, Kd.freshB (g := gb215) (o := .cells #[.string ((rd_T52 x4_1 x24_2).f0), .string ((rd_T52 x4_1 x24_2).f1)] 52 (0, 0)) (by (with_reducible repeat (first | refine blk_drewN ?_ _ | refine blk_drew ?_ | refine blk_alloc ?_ _)); have h_ := BK215.out; exact pK 1 (pK 0 (h_))) k_ hk⟩)); (case aO => exact (by (with_reducible repeat (first | apply Kd.R_alloc | apply Kd.R_drewN | apply Kd.R_drew)); exact Kd.R_mono (rF 1 (rF 0 (Kd.R_mono HO_7.out (fun k_ hk => (⟨hk, hk.2⟩ : _ ∧ k_ ≠ gb215))))) (fun _ hk => ⟨hk.1.1.1, ⟨hk.1.1.2, hk.1.2⟩⟩))); (case aS => exact (below_size (mD2 GE207.out GE215.out))); (case aL => have := LMc24.out; omega); intro v217 w29 ho hb hg hat; rw [← Ny216.out] at ho; have n0_ := aA (Kd.R_after (ok := (fun k_ => k_ ≠ gb207 ∧ k_ ≠ gb215)) (by (with_reducible repeat (first | apply Kd.R_alloc | apply Kd.R_drewN | apply Kd.R_drew)); exact Kd.R_mono (rF 1 (rF 0 (Kd.R_mono HO_22.out (fun k_ hk => (⟨hk, hk.2⟩ : _ ∧ k_ ≠ gb215))))) (fun _ hk => ⟨⟨hk.1.1.2, hk.1.2⟩, hk.1.1.1⟩)) hg hat); have n1_ := aA (blk_grown (g := gb207) (o := .cells #[.string ((rd_T52 l0 x17_1).f0), .string ((rd_T52 l0 x17_1).f1)] 52 (0, 0)) (by (with_reducible repeat (first | refine blk_drewN ?_ _ | refine blk_drew ?_ | refine blk_alloc ?_ _)); refine blk_far ?_ NB207_215.out _; (with_reducible repeat (first | refine blk_drewN ?_ _ | refine blk_drew ?_ | refine blk_alloc ?_ _)); refine blk_far ?_ NB207_215.out _; (with_reducible repeat (first | refine blk_drewN ?_ _ | refine blk_drew ?_ | refine blk_alloc ?_ _)); exact BK207.out) hg (Kd.R_away HO_7.out (fun _ hk => hk.1.2))); have n2_ := aA (blk_grown (g := gb215) (o := .cells #[.string ((rd_T52 x4_1 x24_2).f0), .string ((rd_T52 x4_1 x24_2).f1)] 52 (0, 0)) (by (with_reducible repeat (first | refine blk_drewN ?_ _ | refine blk_drew ?_ | refine blk_alloc ?_ _)); have h_ := BK215.out; exact pK 1 (pK 0 (h_))) hg (Kd.R_away HO_7.out (fun _ hk => hk.2))); have n3_ := aA (hb); have n4_ := aA (ho); clear HO_22 BK207 BK215 HB HO_7; have HO_22 := n0_; have BK207 := n1_; have BK215 := n2_; have HB := n3_; have HO218 := n4_; clear n0_ n1_ n2_ n3_ n4_ ho hb hg hat))
               go_roundg k2
               case measure => have := HK1.out; have := HK2.out; omega
               case rel => exact ⟨(y216), (true), (wrap64 (x24_2 + 1)), (by first | rfl | (simp; done) | (simp [*]; done)), (by first | rfl | (simp; done) | (simp [*]; done)), H', ⟨by have := HK1.out; have := HK2.out; omega⟩, ⟨by (with_reducible repeat (first | apply Kd.R_alloc | apply Kd.R_drewN | apply Kd.R_drew)); exact Kd.R_mono HO218.out (fun _ hk => ⟨hk.1, hk.2.1⟩)⟩, ⟨by (with_reducible repeat (first | apply Kd.R_alloc | apply Kd.R_drewN | apply Kd.R_drew)); exact Kd.R_mono HO_22.out (fun _ hk => ⟨hk.2, hk.1.1⟩)⟩, ⟨by (with_reducible repeat (first | refine blk_drewN ?_ _ | refine blk_drew ?_ | refine blk_alloc ?_ _)); exact BK207.out⟩, ⟨by repeat (first | (with_reducible first | exact HB.out | apply below_alloc | apply pw_below_drewN | apply below_drew1 | refine below_set ?_ GE207.out | refine below_set ?_ GE215.out) | exact HB.out)⟩⟩
              ·rw [if_neg c24] at H
               exact absurd H (by simp)
             ·replace c23 := Bool.eq_false_iff.mpr c23
              subst c23
              have H1 : (if (Op.bytesLess ((rd_T52 l0 x17_1).f0).toList (((rd_T52 x4_1 x24_2).f0).toList)) = true then (if x7_2.length < 4398046511104 then ((some (x7_2 ++ [(⟨((rd_T52 l0 x17_1).f0), ((rd_T52 l0 x17_1).f1)⟩ : S52)] : List (S52))).bind fun y219 => (if y219.length < 4398046511104 then (foghornref10_Sort.l1 k2 (y219 ++ [(⟨(rd_T52 x4_1 x24_2).f0, (rd_T52 x4_1 x24_2).f1⟩ : S52)]) true l0 (l0.length : Int) x17_1 x4_1 (x4_1.length : Int) (wrap64 (x24_2 + 1)) ((rd_T52 l0 x17_1).f0) ((rd_T52 l0 x17_1).f1)) else (none))) else (none)) else (if x7_2.length < 4398046511104 then (foghornref10_Sort.l1 k2 (x7_2 ++ [(⟨(rd_T52 x4_1 x24_2).f0, (rd_T52 x4_1 x24_2).f1⟩ : S52)]) false l0 (l0.length : Int) x17_1 x4_1 (x4_1.length : Int) (wrap64 (x24_2 + 1)) ((rd_T52 l0 x17_1).f0) ((rd_T52 l0 x17_1).f1)) else (none))) = some (r1, r2) := by rw [if_neg (show ¬ (false = true) by decide)] at H; exact H
              clear H
              have H := H1
              clear H1
              by_cases c30 : (Op.bytesLess ((rd_T52 l0 x17_1).f0).toList (((rd_T52 x4_1 x24_2).f0).toList)) = true
              ·rw [if_pos c30] at H
               have c30b0 : (Op.bytesLess ((rd_T52 l0 x17_1).f0).toList (((rd_T52 x4_1 x24_2).f0).toList)) = true := c30
               clear c30
               by_cases c31 : x7_2.length < 4398046511104
               ·rw [if_pos c31] at H
                have LMc31 := aA c31
                clear c31
                obtain ⟨y219, hy219⟩ : ∃ y_ : List (S52), y_ = (x7_2 ++ [(⟨((rd_T52 l0 x17_1).f0), ((rd_T52 l0 x17_1).f1)⟩ : S52)]) := ⟨_, rfl⟩
                replace H : (if y219.length < 4398046511104 then (foghornref10_Sort.l1 k2 (y219 ++ [(⟨(rd_T52 x4_1 x24_2).f0, (rd_T52 x4_1 x24_2).f1⟩ : S52)]) true l0 (l0.length : Int) x17_1 x4_1 (x4_1.length : Int) (wrap64 (x24_2 + 1)) ((rd_T52 l0 x17_1).f0) ((rd_T52 l0 x17_1).f1)) else (none)) = some (r1, r2) := by first | (rw [hy219]; with_reducible exact H) | (have H2_ := (Option.bind_some _ _).symm.trans H; rw [hy219]; with_reducible exact H2_) | (have H2_ := (Option.bind_some _ _).symm.trans H; with_reducible exact H2_) | with_reducible exact H | (rw [hy219]; exact H) | exact H
                have Ny219 := aA hy219
                clear hy219
                by_cases c32 : y219.length < 4398046511104
                ·rw [if_pos c32] at H
                 have LMc32 := aA c32
                 clear c32
                 obtain ⟨y222, hy222⟩ : ∃ y_ : List (S52), y_ = (y219 ++ [(⟨(rd_T52 x4_1 x24_2).f0, (rd_T52 x4_1 x24_2).f1⟩ : S52)]) := ⟨_, rfl⟩
                 replace H : (foghornref10_Sort.l1 k2 y222 true l0 (l0.length : Int) x17_1 x4_1 (x4_1.length : Int) (wrap64 (x24_2 + 1)) ((rd_T52 l0 x17_1).f0) ((rd_T52 l0 x17_1).f1)) = some (r1, r2) := by first | (rw [hy222]; with_reducible exact H) | (have H2_ := (Option.bind_some _ _).symm.trans H; rw [hy222]; with_reducible exact H2_) | (have H2_ := (Option.bind_some _ _).symm.trans H; with_reducible exact H2_) | with_reducible exact H | (rw [hy222]; exact H) | exact H
                 have Ny222 := aA hy222
                 clear hy222
                 have H' := aA H
                 clear H
                 have p214 : 0 ≤ (x24_2 : Int) := of_decide_eq_true (by first | (with_reducible assumption) | assumption)
                 have q214 : x24_2 < (x4_1.length : Int) := of_decide_eq_true (by first | (with_reducible assumption) | assumption)
                 obtain ⟨ad214, e214, hx214_0, hx214_1⟩ := at_T52 (Kd.R_reads' HO_22.out).2.2 x24_2 p214 q214
                 cases e214
                 replace p214 := eq_true p214
                 replace q214 := eq_true q214
                 go_wp2_with (first | ((with_reducible refine gate_dst (N := 10) rfl ?_); refine box_event ?hg (N := 10) ?hd (cs := #[.string (⟨#[]⟩ : ByteArray), .string (⟨#[]⟩ : ByteArray)]) (t := 52) ?hr ?_; (case hd => rfl); (case hg => rfl); (case hr => first | (go_simp; done) | (go_simp; rfl)); intro gb215 hg w33 hbox hb; have n0_ := aA (Kd.R_below (Kd.R_elderB (mR HO_7.out) gb215 (Nat.le_of_eq hg.symm)) hb); have n1_ := aA (Kd.R_below (Kd.R_elderB (mR HO_22.out) gb215 (Nat.le_of_eq hg.symm)) hb); have n2_ := aA (bB BK207.out hb); have n3_ := aA (below_step (mD1 GE207.out) hb); have n4_ := aA (hbox); have n5_ := aA ((bZ hg (mD1 GE207.out))); have n6_ := aA ((bZ hg (mD1 GE207.out))); have n7_ := aA ((bL hg BK207.out)); have n8_ := aA ((bG hg BK207.out)); clear HO_7 HO_22 BK207 HB; have HO_7 := n0_; have HO_22 := n1_; have BK207 := n2_; have HB := n3_; have BK215 := n4_; have GW215 := n5_; have GE215 := n6_; have NB207_215 := n7_; have NB215_207 := n8_; clear n0_ n1_ n2_ n3_ n4_ n5_ n6_ n7_ n8_ hb hbox hg; have hnb34 := NB215_207.out; have hnc34 := NB207_215.out; obtain ⟨hcz35_0, hcz35_1⟩ := bC2 BK215.out; obtain ⟨hfz35_0, hfz35_1⟩ := bF2 BK215.out; obtain ⟨hcz36_0, hcz36_1⟩ := bC2 BK207.out; obtain ⟨hfz36_0, hfz36_1⟩ := bF2 BK207.out) | ((with_reducible refine gate_builtin (b := .append) (xs := #[.tmp 42, .tmp 44]) rfl ?_); at_builtin; refine Kd.R_append k52 (w0 := w) w.heap.size rfl (.tmp 42) (.tmp 44) 22 52 (.agg #[(.string ⟨#[]⟩), (.string ⟨#[]⟩)]) 32 rfl Tryz.underlying22 info52 rfl (by decide) (by omega) u7 x7_2 (⟨((rd_T52 l0 x17_1).f0), ((rd_T52 l0 x17_1).f1)⟩ : S52) [.string ((rd_T52 l0 x17_1).f0), .string ((rd_T52 l0 x17_1).f1)] (fun k_ => some k_ ≠ (.slice (some ad214) x4_1.length co14 : Value).ownBlock ∧ k_ ≠ gb207 ∧ k_ ≠ gb215) (fun _ => False) rfl (by first | (go_simp; done) | (go_simp; rfl)) ?aP (fun _ hk => hk.elim) ?aF ?aO ?aB ?aS ?aL ?_; (case aP => exact k52_mkM _ _ _ (⟨((rd_T52 l0 x17_1).f0), ((rd_T52 l0 x17_1).f1)⟩ : S52)); (case aB => exact (mD2 GE207.out GE215.out)); (case aF => exact (fun k_ hk => ⟨Kd.fresh' (Kd.R_lt (by (with_reducible repeat (first | apply Kd.R_alloc | apply Kd.R_drewN | apply Kd.R_drew)); exact (Kd.R_mono (rF 1 (rF 0 (Kd.R_mono HO_22.out (fun k_ hk => (⟨hk, hk.2⟩ : _ ∧ k_ ≠ gb215))))) (fun _ h_ => h_.1)))) k_ hk, Kd.freshB (g := gb207) (o := .cells #[.string ((rd_T52 l0 x17_1).f0), .string ((rd_T52 l0 x17_1).f1)] 52 (0, 0)) (by (with_reducible repeat (first | refine blk_drewN ?_ _ | refine blk_drew ?_ | refine blk_alloc ?_ _)); refine blk_far ?_ NB207_215.out _; (with_reducible repeat (first | refine blk_drewN ?_ _ | refine blk_drew ?_ | refine blk_alloc ?_ _)); refine blk_far ?_ NB207_215.out _; (with_reducible repeat (first | refine blk_drewN ?_ _ | refine blk_drew ?_ | refine blk_alloc ?_ _)); exact BK207.out) k_ hk, Kd.freshB (g := gb215) (o := .cells #[.string ((rd_T52 x4_1 x24_2).f0), .string ((rd_T52 x4_1 x24_2).f1)] 52 (0, 0)) (by (with_reducible repeat (first | refine blk_drewN ?_ _ | refine blk_drew ?_ | refine blk_alloc ?_ _)); have h_ := BK215.out; exact pK 1 (pK 0 (h_))) k_ hk⟩)); (case aO => exact (by (with_reducible repeat (first | apply Kd.R_alloc | apply Kd.R_drewN | apply Kd.R_drew)); exact Kd.R_mono (rF 1 (rF 0 (Kd.R_mono HO_7.out (fun k_ hk => (⟨hk, hk.2⟩ : _ ∧ k_ ≠ gb215))))) (fun _ hk => ⟨hk.1.1.1, ⟨hk.1.1.2, hk.1.2⟩⟩))); (case aS => exact (below_size (mD2 GE207.out GE215.out))); (case aL => have := LMc31.out; omega); intro v220 w37 ho hb hg hat; rw [← Ny219.out] at ho; have n0_ := aA (Kd.R_after (ok := (fun k_ => k_ ≠ gb207 ∧ k_ ≠ gb215)) (by (with_reducible repeat (first | apply Kd.R_alloc | apply Kd.R_drewN | apply Kd.R_drew)); exact Kd.R_mono (rF 1 (rF 0 (Kd.R_mono HO_22.out (fun k_ hk => (⟨hk, hk.2⟩ : _ ∧ k_ ≠ gb215))))) (fun _ hk => ⟨⟨hk.1.1.2, hk.1.2⟩, hk.1.1.1⟩)) hg hat); have n1_ := aA (blk_grown (g := gb207) (o := .cells #[.string ((rd_T52 l0 x17_1).f0), .string ((rd_T52 l0 x17_1).f1)] 52 (0, 0)) (by (with_reducible repeat (first | refine blk_drewN ?_ _ | refine blk_drew ?_ | refine blk_alloc ?_ _)); refine blk_far ?_ NB207_215.out _; (with_reducible repeat (first | refine blk_drewN ?_ _ | refine blk_drew ?_ | refine blk_alloc ?_ _)); refine blk_far ?_ NB207_215.out _; (with_reducible repeat (first | refine blk_drewN ?_ _ | refine blk_drew ?_ | refine blk_alloc ?_ _)); exact BK207.out) hg (Kd.R_away HO_7.out (fun _ hk => hk.1.2))); have n2_ := aA (blk_grown (g := gb215) (o := .cells #[.string ((rd_T52 x4_1 x24_2).f0), .string ((rd_T52 x4_1 x24_2).f1)] 52 (0, 0)) (by (with_reducible repeat (first | refine blk_drewN ?_ _ | refine blk_drew ?_ | refine blk_alloc ?_ _)); have h_ := BK215.out; exact pK 1 (pK 0 (h_))) hg (Kd.R_away HO_7.out (fun _ hk => hk.2))); have n3_ := aA (hb); have n4_ := aA (ho); clear HO_22 BK207 BK215 HB HO_7; have HO_22 := n0_; have BK207 := n1_; have BK215 := n2_; have HB := n3_; have HO221 := n4_; clear n0_ n1_ n2_ n3_ n4_ ho hb hg hat; obtain ⟨hcz38_0, hcz38_1⟩ := bC2 BK215.out; obtain ⟨hfz38_0, hfz38_1⟩ := bF2 BK215.out) | ((with_reducible refine gate_builtin (b := .append) (xs := #[.tmp 46, .tmp 48]) rfl ?_); at_builtin; refine Kd.R_append k52 (w0 := w) w.heap.size rfl (.tmp 46) (.tmp 48) 22 52 (.agg #[(.string ⟨#[]⟩), (.string ⟨#[]⟩)]) 32 rfl Tryz.underlying22 info52 rfl (by decide) (by omega) v220 y219 (⟨(rd_T52 x4_1 x24_2).f0, (rd_T52 x4_1 x24_2).f1⟩ : S52) [.string ((rd_T52 x4_1 x24_2).f0), .string ((rd_T52 x4_1 x24_2).f1)] (fun k_ => some k_ ≠ (.slice (some ad214) x4_1.length co14 : Value).ownBlock ∧ k_ ≠ gb207 ∧ k_ ≠ gb215) (fun _ => False) rfl rfl ?aP (fun _ hk => hk.elim) ?aF ?aO ?aB ?aS ?aL ?_; (case aP => exact k52_mkM _ _ _ (⟨(rd_T52 x4_1 x24_2).f0, (rd_T52 x4_1 x24_2).f1⟩ : S52)); (case aB => exact (mD2 GE207.out GE215.out)); (case aF => exact (fun k_ hk => ⟨Kd.fresh' (Kd.R_lt (mR HO_22.out)) k_ hk, Kd.freshB (g := gb207) (o := .cells #[.string ((rd_T52 l0 x17_1).f0), .string ((rd_T52 l0 x17_1).f1)] 52 (0, 0)) (mK BK207.out) k_ hk, Kd.freshB (g := gb215) (o := .cells #[.string ((rd_T52 x4_1 x24_2).f0), .string ((rd_T52 x4_1 x24_2).f1)] 52 (0, 0)) (mK BK215.out) k_ hk⟩)); (case aO => exact (mR HO221.out)); (case aS => exact (below_size (mD2 GE207.out GE215.out))); (case aL => have := LMc32.out; omega); intro v223 w39 ho hb hg hat; rw [← Ny222.out] at ho; have n0_ := aA (Kd.R_after (ok := (fun k_ => k_ ≠ gb207 ∧ k_ ≠ gb215)) (mR HO_22.out) hg hat); have n1_ := aA (blk_grown (g := gb207) (o := .cells #[.string ((rd_T52 l0 x17_1).f0), .string ((rd_T52 l0 x17_1).f1)] 52 (0, 0)) (mK BK207.out) hg (Kd.R_away HO221.out (fun _ hk => hk.2.1))); have n2_ := aA (blk_grown (g := gb215) (o := .cells #[.string ((rd_T52 x4_1 x24_2).f0), .string ((rd_T52 x4_1 x24_2).f1)] 52 (0, 0)) (mK BK215.out) hg (Kd.R_away HO221.out (fun _ hk => hk.2.2))); have n3_ := aA (hb); have n4_ := aA (ho); clear HO_22 BK207 BK215 HB HO221; have HO_22 := n0_; have BK207 := n1_; have BK215 := n2_; have HB := n3_; have HO224 := n4_; clear n0_ n1_ n2_ n3_ n4_ ho hb hg hat))
                 go_roundg k2
                 case measure => have := HK1.out; have := HK2.out; omega
                 case rel => exact ⟨(y222), (true), (wrap64 (x24_2 + 1)), (by first | rfl | (simp; done) | (simp [*]; done)), (by first | rfl | (simp; done) | (simp [*]; done)), H', ⟨by have := HK1.out; have := HK2.out; omega⟩, ⟨by (with_reducible repeat (first | apply Kd.R_alloc | apply Kd.R_drewN | apply Kd.R_drew)); exact Kd.R_mono HO224.out (fun _ hk => ⟨hk.1, hk.2.1⟩)⟩, ⟨by (with_reducible repeat (first | apply Kd.R_alloc | apply Kd.R_drewN | apply Kd.R_drew)); exact Kd.R_mono HO_22.out (fun _ hk => ⟨hk.2, hk.1.1⟩)⟩, ⟨by (with_reducible repeat (first | refine blk_drewN ?_ _ | refine blk_drew ?_ | refine blk_alloc ?_ _)); exact BK207.out⟩, ⟨by repeat (first | (with_reducible first | exact HB.out | apply below_alloc | apply pw_below_drewN | apply below_drew1 | refine below_set ?_ GE207.out | refine below_set ?_ GE215.out) | exact HB.out)⟩⟩
                ·rw [if_neg c32] at H
                 exact absurd H (by simp)
               ·rw [if_neg c31] at H
                exact absurd H (by simp)
              ·rw [if_neg c30] at H
               have c30b0 : (Op.bytesLess ((rd_T52 l0 x17_1).f0).toList (((rd_T52 x4_1 x24_2).f0).toList)) = false := by simpa using c30
               clear c30
               by_cases c40 : x7_2.length < 4398046511104
               ·rw [if_pos c40] at H
                have LMc40 := aA c40
                clear c40
                obtain ⟨y225, hy225⟩ : ∃ y_ : List (S52), y_ = (x7_2 ++ [(⟨(rd_T52 x4_1 x24_2).f0, (rd_T52 x4_1 x24_2).f1⟩ : S52)]) := ⟨_, rfl⟩
                replace H : (foghornref10_Sort.l1 k2 y225 false l0 (l0.length : Int) x17_1 x4_1 (x4_1.length : Int) (wrap64 (x24_2 + 1)) ((rd_T52 l0 x17_1).f0) ((rd_T52 l0 x17_1).f1)) = some (r1, r2) := by first | (rw [hy225]; with_reducible exact H) | (have H2_ := (Option.bind_some _ _).symm.trans H; rw [hy225]; with_reducible exact H2_) | (have H2_ := (Option.bind_some _ _).symm.trans H; with_reducible exact H2_) | with_reducible exact H | (rw [hy225]; exact H) | exact H
                have Ny225 := aA hy225
                clear hy225
                have H' := aA H
                clear H
                have p214 : 0 ≤ (x24_2 : Int) := of_decide_eq_true (by first | (with_reducible assumption) | assumption)
                have q214 : x24_2 < (x4_1.length : Int) := of_decide_eq_true (by first | (with_reducible assumption) | assumption)
                obtain ⟨ad214, e214, hx214_0, hx214_1⟩ := at_T52 (Kd.R_reads' HO_22.out).2.2 x24_2 p214 q214
                cases e214
                replace p214 := eq_true p214
                replace q214 := eq_true q214
                go_wp2_with (first | ((with_reducible refine gate_dst (N := 10) rfl ?_); refine box_event ?hg (N := 10) ?hd (cs := #[.string (⟨#[]⟩ : ByteArray), .string (⟨#[]⟩ : ByteArray)]) (t := 52) ?hr ?_; (case hd => rfl); (case hg => rfl); (case hr => first | (go_simp; done) | (go_simp; rfl)); intro gb215 hg w41 hbox hb; have n0_ := aA (Kd.R_below (Kd.R_elderB (mR HO_7.out) gb215 (Nat.le_of_eq hg.symm)) hb); have n1_ := aA (Kd.R_below (Kd.R_elderB (mR HO_22.out) gb215 (Nat.le_of_eq hg.symm)) hb); have n2_ := aA (bB BK207.out hb); have n3_ := aA (below_step (mD1 GE207.out) hb); have n4_ := aA (hbox); have n5_ := aA ((bZ hg (mD1 GE207.out))); have n6_ := aA ((bZ hg (mD1 GE207.out))); have n7_ := aA ((bL hg BK207.out)); have n8_ := aA ((bG hg BK207.out)); clear HO_7 HO_22 BK207 HB; have HO_7 := n0_; have HO_22 := n1_; have BK207 := n2_; have HB := n3_; have BK215 := n4_; have GW215 := n5_; have GE215 := n6_; have NB207_215 := n7_; have NB215_207 := n8_; clear n0_ n1_ n2_ n3_ n4_ n5_ n6_ n7_ n8_ hb hbox hg; have hnb42 := NB215_207.out; have hnc42 := NB207_215.out; obtain ⟨hcz43_0, hcz43_1⟩ := bC2 BK215.out; obtain ⟨hfz43_0, hfz43_1⟩ := bF2 BK215.out; obtain ⟨hcz44_0, hcz44_1⟩ := bC2 BK207.out; obtain ⟨hfz44_0, hfz44_1⟩ := bF2 BK207.out) | ((with_reducible refine gate_builtin (b := .append) (xs := #[.tmp 46, .tmp 48]) rfl ?_); at_builtin; refine Kd.R_append k52 (w0 := w) w.heap.size rfl (.tmp 46) (.tmp 48) 22 52 (.agg #[(.string ⟨#[]⟩), (.string ⟨#[]⟩)]) 32 rfl Tryz.underlying22 info52 rfl (by decide) (by omega) u7 x7_2 (⟨(rd_T52 x4_1 x24_2).f0, (rd_T52 x4_1 x24_2).f1⟩ : S52) [.string ((rd_T52 x4_1 x24_2).f0), .string ((rd_T52 x4_1 x24_2).f1)] (fun k_ => some k_ ≠ (.slice (some ad214) x4_1.length co14 : Value).ownBlock ∧ k_ ≠ gb207 ∧ k_ ≠ gb215) (fun _ => False) rfl (by first | (go_simp; done) | (go_simp; rfl)) ?aP (fun _ hk => hk.elim) ?aF ?aO ?aB ?aS ?aL ?_; (case aP => exact k52_mkM _ _ _ (⟨(rd_T52 x4_1 x24_2).f0, (rd_T52 x4_1 x24_2).f1⟩ : S52)); (case aB => exact (mD2 GE207.out GE215.out)); (case aF => exact (fun k_ hk => ⟨Kd.fresh' (Kd.R_lt (by (with_reducible repeat (first | apply Kd.R_alloc | apply Kd.R_drewN | apply Kd.R_drew)); exact (Kd.R_mono (rF 1 (rF 0 (Kd.R_mono HO_22.out (fun k_ hk => (⟨hk, hk.2⟩ : _ ∧ k_ ≠ gb215))))) (fun _ h_ => h_.1)))) k_ hk, Kd.freshB (g := gb207) (o := .cells #[.string ((rd_T52 l0 x17_1).f0), .string ((rd_T52 l0 x17_1).f1)] 52 (0, 0)) (by (with_reducible repeat (first | refine blk_drewN ?_ _ | refine blk_drew ?_ | refine blk_alloc ?_ _)); refine blk_far ?_ NB207_215.out _; (with_reducible repeat (first | refine blk_drewN ?_ _ | refine blk_drew ?_ | refine blk_alloc ?_ _)); refine blk_far ?_ NB207_215.out _; (with_reducible repeat (first | refine blk_drewN ?_ _ | refine blk_drew ?_ | refine blk_alloc ?_ _)); exact BK207.out) k_ hk, Kd.freshB (g := gb215) (o := .cells #[.string ((rd_T52 x4_1 x24_2).f0), .string ((rd_T52 x4_1 x24_2).f1)] 52 (0, 0)) (by (with_reducible repeat (first | refine blk_drewN ?_ _ | refine blk_drew ?_ | refine blk_alloc ?_ _)); have h_ := BK215.out; exact pK 1 (pK 0 (h_))) k_ hk⟩)); (case aO => exact (by (with_reducible repeat (first | apply Kd.R_alloc | apply Kd.R_drewN | apply Kd.R_drew)); exact Kd.R_mono (rF 1 (rF 0 (Kd.R_mono HO_7.out (fun k_ hk => (⟨hk, hk.2⟩ : _ ∧ k_ ≠ gb215))))) (fun _ hk => ⟨hk.1.1.1, ⟨hk.1.1.2, hk.1.2⟩⟩))); (case aS => exact (below_size (mD2 GE207.out GE215.out))); (case aL => have := LMc40.out; omega); intro v226 w45 ho hb hg hat; rw [← Ny225.out] at ho; have n0_ := aA (Kd.R_after (ok := (fun k_ => k_ ≠ gb207 ∧ k_ ≠ gb215)) (by (with_reducible repeat (first | apply Kd.R_alloc | apply Kd.R_drewN | apply Kd.R_drew)); exact Kd.R_mono (rF 1 (rF 0 (Kd.R_mono HO_22.out (fun k_ hk => (⟨hk, hk.2⟩ : _ ∧ k_ ≠ gb215))))) (fun _ hk => ⟨⟨hk.1.1.2, hk.1.2⟩, hk.1.1.1⟩)) hg hat); have n1_ := aA (blk_grown (g := gb207) (o := .cells #[.string ((rd_T52 l0 x17_1).f0), .string ((rd_T52 l0 x17_1).f1)] 52 (0, 0)) (by (with_reducible repeat (first | refine blk_drewN ?_ _ | refine blk_drew ?_ | refine blk_alloc ?_ _)); refine blk_far ?_ NB207_215.out _; (with_reducible repeat (first | refine blk_drewN ?_ _ | refine blk_drew ?_ | refine blk_alloc ?_ _)); refine blk_far ?_ NB207_215.out _; (with_reducible repeat (first | refine blk_drewN ?_ _ | refine blk_drew ?_ | refine blk_alloc ?_ _)); exact BK207.out) hg (Kd.R_away HO_7.out (fun _ hk => hk.1.2))); have n2_ := aA (blk_grown (g := gb215) (o := .cells #[.string ((rd_T52 x4_1 x24_2).f0), .string ((rd_T52 x4_1 x24_2).f1)] 52 (0, 0)) (by (with_reducible repeat (first | refine blk_drewN ?_ _ | refine blk_drew ?_ | refine blk_alloc ?_ _)); have h_ := BK215.out; exact pK 1 (pK 0 (h_))) hg (Kd.R_away HO_7.out (fun _ hk => hk.2))); have n3_ := aA (hb); have n4_ := aA (ho); clear HO_22 BK207 BK215 HB HO_7; have HO_22 := n0_; have BK207 := n1_; have BK215 := n2_; have HB := n3_; have HO227 := n4_; clear n0_ n1_ n2_ n3_ n4_ ho hb hg hat))
                go_roundg k2
                case measure => have := HK1.out; have := HK2.out; omega
                case rel => exact ⟨(y225), (false), (wrap64 (x24_2 + 1)), (by first | rfl | (simp; done) | (simp [*]; done)), (by first | rfl | (simp; done) | (simp [*]; done)), H', ⟨by have := HK1.out; have := HK2.out; omega⟩, ⟨by (with_reducible repeat (first | apply Kd.R_alloc | apply Kd.R_drewN | apply Kd.R_drew)); exact Kd.R_mono HO227.out (fun _ hk => ⟨hk.1, hk.2.1⟩)⟩, ⟨by (with_reducible repeat (first | apply Kd.R_alloc | apply Kd.R_drewN | apply Kd.R_drew)); exact Kd.R_mono HO_22.out (fun _ hk => ⟨hk.2, hk.1.1⟩)⟩, ⟨by (with_reducible repeat (first | refine blk_drewN ?_ _ | refine blk_drew ?_ | refine blk_alloc ?_ _)); exact BK207.out⟩, ⟨by repeat (first | (with_reducible first | exact HB.out | apply below_alloc | apply pw_below_drewN | apply below_drew1 | refine below_set ?_ GE207.out | refine below_set ?_ GE215.out) | exact HB.out)⟩⟩
               ·rw [if_neg c40] at H
                exact absurd H (by simp)
           ·rw [if_neg c17] at H
            exact absurd H (by simp)
          ·rw [if_neg c16] at H
           exact absurd H (by simp)
         ·rw [if_neg c15] at H
          have c15b0 : decide (x24_2 < (x4_1.length : Int)) = false := decide_eq_false c15
          clear c15
          by_cases c46 : x8_2 = true
          ·subst c46
           have H1 : (foghornref10_Sort.l0 k2 x7_2 l0 (l0.length : Int) (wrap64 (x17_1 + 1))) = some (r1, r2) := by rw [if_pos rfl] at H; exact H
           clear H
           have H := H1
           clear H1
           have H' := aA H
           clear H
           go_wp2
           go_roundg k2
           case measure => have := HK1.out; have := HK2.out; omega
           case rel => exact ⟨(x7_2), (wrap64 (x17_1 + 1)), (by first | rfl | (simp; done) | (simp [*]; done)), H', ⟨by have := HK1.out; have := HK2.out; omega⟩, ⟨by (with_reducible repeat (first | apply Kd.R_alloc | apply Kd.R_drewN | apply Kd.R_drew)); exact Kd.R_mono HO_7.out (fun _ hk => trivial)⟩, ⟨by repeat (first | (with_reducible first | exact HB.out | apply below_alloc | apply pw_below_drewN | apply below_drew1 | refine below_set ?_ GE207.out) | exact HB.out)⟩⟩
          ·replace c46 := Bool.eq_false_iff.mpr c46
           subst c46
           have H1 : (if x7_2.length < 4398046511104 then (foghornref10_Sort.l0 k2 (x7_2 ++ [(⟨((rd_T52 l0 x17_1).f0), ((rd_T52 l0 x17_1).f1)⟩ : S52)]) l0 (l0.length : Int) (wrap64 (x17_1 + 1))) else (none)) = some (r1, r2) := by rw [if_neg (show ¬ (false = true) by decide)] at H; exact H
           clear H
           have H := H1
           clear H1
           by_cases c47 : x7_2.length < 4398046511104
           ·rw [if_pos c47] at H
            have LMc47 := aA c47
            clear c47
            obtain ⟨y211, hy211⟩ : ∃ y_ : List (S52), y_ = (x7_2 ++ [(⟨((rd_T52 l0 x17_1).f0), ((rd_T52 l0 x17_1).f1)⟩ : S52)]) := ⟨_, rfl⟩
            replace H : (foghornref10_Sort.l0 k2 y211 l0 (l0.length : Int) (wrap64 (x17_1 + 1))) = some (r1, r2) := by first | (rw [hy211]; with_reducible exact H) | (have H2_ := (Option.bind_some _ _).symm.trans H; rw [hy211]; with_reducible exact H2_) | (have H2_ := (Option.bind_some _ _).symm.trans H; with_reducible exact H2_) | with_reducible exact H | (rw [hy211]; exact H) | exact H
            have Ny211 := aA hy211
            clear hy211
            have H' := aA H
            clear H
            obtain ⟨hcz48_0, hcz48_1⟩ := bC2 BK207.out
            obtain ⟨hfz48_0, hfz48_1⟩ := bF2 BK207.out
            go_wp2_with (first | ((with_reducible refine gate_builtin (b := .append) (xs := #[.tmp 53, .tmp 55]) rfl ?_); at_builtin; refine Kd.R_append k52 (w0 := w) w.heap.size rfl (.tmp 53) (.tmp 55) 22 52 (.agg #[(.string ⟨#[]⟩), (.string ⟨#[]⟩)]) 32 rfl Tryz.underlying22 info52 rfl (by decide) (by omega) u7 x7_2 (⟨((rd_T52 l0 x17_1).f0), ((rd_T52 l0 x17_1).f1)⟩ : S52) [.string ((rd_T52 l0 x17_1).f0), .string ((rd_T52 l0 x17_1).f1)] (fun k_ => some k_ ≠ (.slice Ao14 x4_1.length co14 : Value).ownBlock ∧ k_ ≠ gb207) (fun _ => False) rfl rfl ?aP (fun _ hk => hk.elim) ?aF ?aO ?aB ?aS ?aL ?_; (case aP => exact k52_mkM _ _ _ (⟨((rd_T52 l0 x17_1).f0), ((rd_T52 l0 x17_1).f1)⟩ : S52)); (case aB => exact (mD1 GE207.out)); (case aF => exact (fun k_ hk => ⟨Kd.fresh' (Kd.R_lt (mR HO_22.out)) k_ hk, Kd.freshB (g := gb207) (o := .cells #[.string ((rd_T52 l0 x17_1).f0), .string ((rd_T52 l0 x17_1).f1)] 52 (0, 0)) (mK BK207.out) k_ hk⟩)); (case aO => exact (mR HO_7.out)); (case aS => exact (below_size (mD1 GE207.out))); (case aL => have := LMc47.out; omega); intro v212 w49 ho hb hg hat; rw [← Ny211.out] at ho; have n0_ := aA (Kd.R_after (ok := (fun k_ => k_ ≠ gb207)) (by (with_reducible repeat (first | apply Kd.R_alloc | apply Kd.R_drewN | apply Kd.R_drew)); exact Kd.R_mono HO_22.out (fun _ hk => ⟨hk.2, hk.1⟩)) hg hat); have n1_ := aA (blk_grown (g := gb207) (o := .cells #[.string ((rd_T52 l0 x17_1).f0), .string ((rd_T52 l0 x17_1).f1)] 52 (0, 0)) (mK BK207.out) hg (Kd.R_away HO_7.out (fun _ hk => hk.2))); have n2_ := aA (hb); have n3_ := aA (ho); clear HO_22 BK207 HB HO_7; have HO_22 := n0_; have BK207 := n1_; have HB := n2_; have HO213 := n3_; clear n0_ n1_ n2_ n3_ ho hb hg hat))
            go_roundg k2
            case measure => have := HK1.out; have := HK2.out; omega
            case rel => exact ⟨(y211), (wrap64 (x17_1 + 1)), (by first | rfl | (simp; done) | (simp [*]; done)), H', ⟨by have := HK1.out; have := HK2.out; omega⟩, ⟨by (with_reducible repeat (first | apply Kd.R_alloc | apply Kd.R_drewN | apply Kd.R_drew)); exact Kd.R_mono HO213.out (fun _ hk => trivial)⟩, ⟨by repeat (first | (with_reducible first | exact HB.out | apply below_alloc | apply pw_below_drewN | apply below_drew1 | refine below_set ?_ GE207.out) | exact HB.out)⟩⟩
           ·rw [if_neg c47] at H
            exact absurd H (by simp)
      ·rw [if_neg c9] at H
       exact absurd H (by simp)
     ·rw [if_neg c8] at H
      exact absurd H (by simp)
    ·rw [if_neg c7] at H
     have c7b0 : decide (x17_1 < (l0.length : Int)) = false := decide_eq_false c7
     clear c7
     simp only [Option.some.injEq, Prod.mk.injEq] at H
     obtain ⟨rfl, rfl⟩ := H
     go_wp2
     go_ret2
     exact ⟨_, by first | rfl | (simp [errW_none, errW_some] <;> rfl) | (simp [*, errW_none, errW_some] <;> rfl), by (with_reducible repeat (first | apply Kd.R_alloc | apply Kd.R_drewN | apply Kd.R_drew)); exact HO_4.out, by repeat (first | (with_reducible first | exact HB.out | apply below_alloc | apply pw_below_drewN | apply below_drew1) | exact HB.out)⟩
 ·replace c3 := Bool.eq_false_iff.mpr c3
  subst c3
  have H1 : (some (([] : List (S52)), 1)) = some (r1, r2) := by rw [if_neg (show ¬ (false = true) by decide)] at H; exact H
  clear H
  have H := H1
  clear H1
  simp only [Option.some.injEq, Prod.mk.injEq] at H
  obtain ⟨rfl, rfl⟩ := H
  go_enter Tryz.func78, Tryz.ntmps78
  go_wp2_with (first | ((with_reducible refine gate_callee (f := 95) rfl ?_); refine goesL_ (some 12) rfl rfl Tryz.func95 (by kernel_rfl) rfl #[.slice A0 l0.length c0] rfl mS ?_; (with_reducible refine (foghornref10_each.calls _ _ l0 false _ ?side1 ?side2 A2.out).mono ?_); (case side1 => exact mC (HR0.out)); (case side2 => exact HC0.out); rintro e w50 ⟨rfl, hb⟩; refine ⟨_, rfl, ?_⟩; have n0_ := aA (below_step mB hb); clear HB; have HB := n0_; clear n0_; (try clear hb); (try clear hb2); (try clear hk); (try clear hi)))
  go_ret2
  exact ⟨_, by first | rfl | (simp [errW_none, errW_some] <;> rfl) | (simp [*, errW_none, errW_some] <;> rfl), by first | exact Kd.R_nil _ _ _ _ _ | exact Kd.N_nil _ _ _ _ _ | exact Kd.V_nil _ _ _ _ _ | exact Kd.Q_nil _ _ _ _ _ | exact Kd.S_nil _ _ _ _ _, by repeat (first | (with_reducible first | exact HB.out | apply below_alloc | apply pw_below_drewN | apply below_drew1) | exact HB.out)⟩
end Go.Proofs.YtjfknmlchdifjaaGreatDoorQ.P
namespace Go.Proofs.YtjfknmlchdifjaaGreatDoorQ.P
open Go.RowKit Go.Proofs.YtjfknmlchdifjaaGreatDoorW.PrintWords Go.Proofs.YtjfknmlchdifjaaGreatDoorW.PrintLast Go.Proofs.YtjfknmlchdifjaaGreatDoorW.PrintMore
attribute [local go_sem] max2_int min2_int max_two min_two max_three min_three max_four min_four
def foghornref12_alert.l0 : Nat → Int → List (S52) → List ByteArray → Int → Int → Option (Int × (List (S52)) × Int × Int × (List (S32)) × Int)
 | 0, _, _, _, _, _ => none
 | k + 1, x0, x6, x14, x15, x16 => if x16 < x15 then (if 0 ≤ x16 then (if x16 < (x14.length : Int) then ((foghornref12_label.f k (rdOf ByteArray.empty x14 x16)).bind fun bt233 => (if bt233.2.2 = true then (if x6.length < 4398046511104 then (foghornref12_alert.l0 k x0 (x6 ++ [(⟨bt233.1, bt233.2.1⟩ : S52)]) x14 x15 (wrap64 (x16 + 1))) else (none)) else (some (0, ([] : List (S52)), 0, 0, ([] : List (S32)), 13)))) else (none)) else (none)) else ((foghornref10_Sort.f k x6).bind fun bt240 => (if bt240.2 = 0 then (some (x0, bt240.1, 0, 0, ([] : List (S32)), 0)) else (some (0, ([] : List (S52)), 0, 0, ([] : List (S32)), bt240.2))))
def foghornref12_alert.f (k : Nat) (a0 : Int) (l1 : List ByteArray) : Option (Int × (List (S52)) × Int × Int × (List (S32)) × Int) := foghornref12_alert.l0 k a0 (([] : List (S52))) l1 (l1.length : Int) 0
theorem foghornref12_alert.mono_l : ∀ k, (∀ y0 y1 y2 y3 y4, LeO (foghornref12_alert.l0 k y0 y1 y2 y3 y4) (foghornref12_alert.l0 (k + 1) y0 y1 y2 y3 y4))
 | 0 => fun _ _ _ _ _ r h => by simp [foghornref12_alert.l0] at h
 | k + 1 => by
  have ih0 := foghornref12_alert.mono_l k
  ·intro y0 y1 y2 y3 y4
   unfold foghornref12_alert.l0
   repeat' first
   | (with_reducible exact ih0 _ _ _ _ _)
   | (with_reducible exact foghornref10_Sort.mono _ _)
   | (with_reducible exact foghornref12_label.mono _ _)
   | (with_reducible exact LeO.refl _)
   | (with_reducible exact LeO.none _)
   | (with_reducible refine LeO.ite ?_ ?_)
   | (with_reducible refine LeO.bind ?_ (fun _ => ?_))
   | exact ih0 _ _ _ _ _
   | exact foghornref10_Sort.mono _ _
   | exact foghornref12_label.mono _ _
   | exact LeO.none _
   | refine LeO.ite ?_ ?_
   | refine LeO.bind ?_ (fun _ => ?_)
theorem foghornref12_alert.mono : ∀ a0 a1 k, LeO (foghornref12_alert.f k a0 a1) (foghornref12_alert.f (k + 1) a0 a1) := by
 intro a0 a1 k
 have ih0 := foghornref12_alert.mono_l k
 unfold foghornref12_alert.f
 repeat' first
   | (with_reducible exact ih0 _ _ _ _ _)
   | (with_reducible exact foghornref10_Sort.mono _ _)
   | (with_reducible exact foghornref12_label.mono _ _)
   | (with_reducible exact LeO.refl _)
   | (with_reducible exact LeO.none _)
   | (with_reducible refine LeO.ite ?_ ?_)
   | (with_reducible refine LeO.bind ?_ (fun _ => ?_))
   | exact ih0 _ _ _ _ _
   | exact foghornref10_Sort.mono _ _
   | exact foghornref12_label.mono _ _
   | exact LeO.none _
   | refine LeO.ite ?_ ?_
   | refine LeO.bind ?_ (fun _ => ?_)
set_option maxHeartbeats 8000000 in
set_option maxRecDepth 100000 in
theorem foghornref12_alert.calls (k : Nat) (a0 : Int) (A1 : Option Addr) (c1 : Nat) (l1 : List ByteArray) (r1 : Int) (r2 : List (S52)) (r3 : Int) (r4 : Int) (r5 : List (S32)) (r6 : Int) (w : World) (hr1 : Kd.C Kd.string w A1 l1.length l1) (hc1 : l1.length ≤ c1) (h : foghornref12_alert.f k a0 l1 = some (r1, r2, r3, r4, r5, r6)) :
  Calls Tryz.prog 38 #[.int .i64 a0, .slice A1 l1.length c1] w fun e w' => ∃ v1_ v4_ : Value, e = .returned (.tuple #[.agg #[.int .i64 r1, v1_, .int .i64 r3, .int .i64 r4, v4_], .int .i64 r6]) ∧ Kd.R k52 52 w' w.heap.size (fun _ => True) v1_ r2 ∧ Kd.R k32 32 w' w.heap.size (fun _ => True) v4_ r5 ∧ Below w.heap.size w w' := by
 have hu27 := Tryz.underlying27
 have hu52 := Tryz.underlying52
 have HR1 := aA hr1
 have HC1 := aA hc1
 clear hr1 hc1
 have HB := aA (Below.refl w.heap.size w)
 have H : (foghornref12_alert.l0 k a0 (([] : List (S52))) l1 (l1.length : Int) 0) = some (r1, r2, r3, r4, r5, r6) := h
 clear h
 obtain ⟨y229, hy229⟩ : ∃ y_ : List (S52), y_ = (([] : List (S52))) := ⟨_, rfl⟩
 replace H : (foghornref12_alert.l0 k a0 y229 l1 (l1.length : Int) 0) = some (r1, r2, r3, r4, r5, r6) := by first | (rw [hy229]; with_reducible exact H) | (have H2_ := (Option.bind_some _ _).symm.trans H; rw [hy229]; with_reducible exact H2_) | (have H2_ := (Option.bind_some _ _).symm.trans H; with_reducible exact H2_) | with_reducible exact H | (rw [hy229]; exact H) | exact H
 have Ny229 := aA hy229
 clear hy229
 have H' := aA H
 clear H
 go_enter Tryz.func38, Tryz.ntmps38
 go_wp2_with (first | ((with_reducible refine gate_dst (N := 4) rfl ?_); refine box_event ?hg (N := 4) ?hd (cs := #[.int .i64 0, .slice none 0 0, .int .i64 0, .int .i64 0, .slice none 0 0]) (t := 27) ?hr ?_; (case hd => rfl); (case hg => rfl); (case hr => first | (go_simp; done) | (go_simp; rfl)); intro gb228 hg w3 hbox hb; have n0_ := aA (below_step mB hb); have n1_ := aA (hbox); have n2_ := aA ((bZ hg mB)); have n3_ := aA ((bZ hg mB)); clear HB; have HB := n0_; have BK228 := n1_; have GW228 := n2_; have GE228 := n3_; clear n0_ n1_ n2_ n3_ hb hbox hg) | ((with_reducible refine gate_dst (N := 13) rfl ?_); refine Kd.R_lit k52 _ 52 ?hg (N := 13) ?hd (xs := ([] : List (S52))) (inner := []) (ok := fun _ => True) (okp := fun _ => True) ?hr ?hp (fun _ hk => hk) trivial (Below.refl _ _) (Nat.le_refl _) (by simp) ?_; (case hd => rfl); (case hg => rfl); (case hr => first | (go_simp; done) | (go_simp; rfl)); (case hp => exact (Reps.none _ _)); intro v230 w4 ho5 hb hg_ hnew_; clear hg_ hnew_; (first | rw [← Ny229.out] at ho5 | (simp only [Int.reduceToNat] at ho5; rw [← Ny229.out] at ho5)); have n0_ := aA (Kd.R_lower ho5 (below_size (mD1 GE228.out))); have n1_ := aA (bB BK228.out hb); have n2_ := aA (below_step (mD1 GE228.out) hb); clear BK228 HB; have HO231 := n0_; have BK228 := n1_; have HB := n2_; clear n0_ n1_ n2_ hb ho5))
 go_loopg [6, 16] k (fun kq v6 v16 w' => ∃ (x6_1 : List (S52)) (x16_1 : Int) (x229000_1 : Int) (x229002_1 : Int) (x229003_1 : Int), v16 = .int .i64 x16_1 ∧ Aside0 (foghornref12_alert.l0 kq a0 x6_1 l1 (l1.length : Int) x16_1 = some (r1, r2, r3, r4, r5, r6)) ∧ Aside0 (kq ≤ k) ∧ Aside0 (Kd.R k52 52 w' w.heap.size (fun _ => True) v6 x6_1) ∧ Aside0 (w'.heap[gb228]? = some (.cells #[.int .i64 x229000_1, (.slice none 0 0), .int .i64 x229002_1, .int .i64 x229003_1, (.slice none 0 0)] 27 (0, 0))) ∧ Aside0 (Below w.heap.size w w'))
 case atStart => exact ⟨(y229), (0), (0), (0), (0), (by first | rfl | (simp; done) | (simp [*]; done)), H', ⟨Nat.le_refl _⟩, ⟨by (with_reducible repeat (first | apply Kd.R_alloc | apply Kd.R_drewN | apply Kd.R_drew)); exact HO231.out⟩, ⟨by (with_reducible repeat (first | refine blk_drewN ?_ _ | refine blk_drew ?_ | refine blk_alloc ?_ _)); exact BK228.out⟩, ⟨by repeat (first | (with_reducible first | exact HB.out | apply below_alloc | apply pw_below_drewN | apply below_drew1 | refine below_set ?_ GE228.out) | exact HB.out)⟩⟩
 case round =>
  clear H'
  try clear c1
  try clear p2
  try clear c3
  obtain ⟨x6_1, x16_1, x229000_1, x229002_1, x229003_1, rfl, HA, HK1, HO_6, BK228, HB⟩ := hrel
  cases gk with
  | zero => exact absurd HA.out (by simp [foghornref12_alert.l0])
  | succ k1 =>
   have H := HA.out
   clear HA
   simp only [foghornref12_alert.l0] at H
   by_cases c6 : x16_1 < (l1.length : Int)
   ·rw [if_pos c6] at H
    have c6b0 : decide (x16_1 < (l1.length : Int)) = true := decide_eq_true c6
    clear c6
    by_cases c7 : 0 ≤ x16_1
    ·rw [if_pos c7] at H
     have c7b0 : decide (0 ≤ x16_1) = true := decide_eq_true c7
     clear c7
     by_cases c8 : x16_1 < (l1.length : Int)
     ·rw [if_pos c8] at H
      have c8b0 : decide (x16_1 < (l1.length : Int)) = true := decide_eq_true c8
      clear c8
      replace H := Option.bind_eq_some_iff.mp H
      obtain ⟨⟨t233, t234, t235⟩, A90, H⟩ := H
      replace H : (if t235 = true then (if x6_1.length < 4398046511104 then (foghornref12_alert.l0 k1 a0 (x6_1 ++ [(⟨t233, t234⟩ : S52)]) l1 (l1.length : Int) (wrap64 (x16_1 + 1))) else (none)) else (some (0, ([] : List (S52)), 0, 0, ([] : List (S32)), 13))) = some (r1, r2, r3, r4, r5, r6) := H
      have A9 := aA A90
      clear A90
      by_cases c10 : t235 = true
      ·subst c10
       have H1 : (if x6_1.length < 4398046511104 then (foghornref12_alert.l0 k1 a0 (x6_1 ++ [(⟨t233, t234⟩ : S52)]) l1 (l1.length : Int) (wrap64 (x16_1 + 1))) else (none)) = some (r1, r2, r3, r4, r5, r6) := by rw [if_pos rfl] at H; exact H
       clear H
       have H := H1
       clear H1
       by_cases c11 : x6_1.length < 4398046511104
       ·rw [if_pos c11] at H
        have LMc11 := aA c11
        clear c11
        obtain ⟨y237, hy237⟩ : ∃ y_ : List (S52), y_ = (x6_1 ++ [(⟨t233, t234⟩ : S52)]) := ⟨_, rfl⟩
        replace H : (foghornref12_alert.l0 k1 a0 y237 l1 (l1.length : Int) (wrap64 (x16_1 + 1))) = some (r1, r2, r3, r4, r5, r6) := by first | (rw [hy237]; with_reducible exact H) | (have H2_ := (Option.bind_some _ _).symm.trans H; rw [hy237]; with_reducible exact H2_) | (have H2_ := (Option.bind_some _ _).symm.trans H; with_reducible exact H2_) | with_reducible exact H | (rw [hy237]; exact H) | exact H
        have Ny237 := aA hy237
        clear hy237
        have H' := aA H
        clear H
        have p232 : 0 ≤ (x16_1 : Int) := of_decide_eq_true (by first | (with_reducible assumption) | assumption)
        have q232 : x16_1 < (l1.length : Int) := of_decide_eq_true (by first | (with_reducible assumption) | assumption)
        obtain ⟨ad232, e232, hx232_0⟩ := Kd.at_string HR1.out x16_1 p232 q232
        cases e232
        replace hx232_0 := (HB.out.cell (World.block_lt_of_cell? w _ hx232_0)).trans hx232_0
        replace p232 := eq_true p232
        replace q232 := eq_true q232
        go_wp2_with (first | ((with_reducible refine gate_callee (f := 77) rfl ?_); refine goesL_ (some 22) rfl rfl Tryz.func77 (by kernel_rfl) rfl #[.string (rdOf ByteArray.empty l1 x16_1)] rfl mS ?_; (with_reducible refine (foghornref12_label.calls k1 (rdOf ByteArray.empty l1 x16_1) t233 t234 true _ A9.out).mono ?_); rintro e w12 ⟨rfl, hb⟩; refine ⟨_, rfl, ?_⟩; have n0_ := aA (Kd.R_below (mR HO_6.out) hb); have n1_ := aA (bB BK228.out hb); have n2_ := aA (below_step (mD1 GE228.out) hb); clear HO_6 BK228 HB; have HO_6 := n0_; have BK228 := n1_; have HB := n2_; clear n0_ n1_ n2_; (try clear hb); (try clear hb2); (try clear hk); (try clear hi)) | ((with_reducible refine gate_dst (N := 9) rfl ?_); refine box_event ?hg (N := 9) ?hd (cs := #[.string (⟨#[]⟩ : ByteArray), .string (⟨#[]⟩ : ByteArray)]) (t := 52) ?hr ?_; (case hd => rfl); (case hg => rfl); (case hr => first | (go_simp; done) | (go_simp; rfl)); intro gb236 hg w13 hbox hb; have n0_ := aA (Kd.R_below (Kd.R_elderB (mR HO_6.out) gb236 (Nat.le_of_eq hg.symm)) hb); have n1_ := aA (bB BK228.out hb); have n2_ := aA (below_step (mD1 GE228.out) hb); have n3_ := aA (hbox); have n4_ := aA ((bZ hg (mD1 GE228.out))); have n5_ := aA ((bZ hg (mD1 GE228.out))); have n6_ := aA ((bL hg BK228.out)); have n7_ := aA ((bG hg BK228.out)); clear HO_6 BK228 HB; have HO_6 := n0_; have BK228 := n1_; have HB := n2_; have BK236 := n3_; have GW236 := n4_; have GE236 := n5_; have NB228_236 := n6_; have NB236_228 := n7_; clear n0_ n1_ n2_ n3_ n4_ n5_ n6_ n7_ hb hbox hg; have hnb14 := NB236_228.out; have hnc14 := NB228_236.out; obtain ⟨hcz15_0, hcz15_1⟩ := bC2 BK236.out; obtain ⟨hfz15_0, hfz15_1⟩ := bF2 BK236.out) | ((with_reducible refine gate_builtin (b := .append) (xs := #[.tmp 28, .tmp 30]) rfl ?_); at_builtin; refine Kd.R_append k52 (w0 := w) w.heap.size rfl (.tmp 28) (.tmp 30) 22 52 (.agg #[(.string ⟨#[]⟩), (.string ⟨#[]⟩)]) 32 rfl Tryz.underlying22 info52 rfl (by decide) (by omega) u6 x6_1 (⟨t233, t234⟩ : S52) [.string t233, .string t234] (fun k_ => k_ ≠ gb236) (fun _ => False) rfl (by first | (go_simp; done) | (go_simp; rfl)) ?aP (fun _ hk => hk.elim) ?aF ?aO ?aB ?aS ?aL ?_; (case aP => exact k52_mkM _ _ _ (⟨t233, t234⟩ : S52)); (case aB => exact (mD2 GE228.out GE236.out)); (case aF => exact (fun k_ hk => Kd.freshB (g := gb236) (o := .cells #[.string t233, .string t234] 52 (0, 0)) (by (with_reducible repeat (first | refine blk_drewN ?_ _ | refine blk_drew ?_ | refine blk_alloc ?_ _)); have h_ := BK236.out; exact pK 1 (pK 0 (h_))) k_ hk)); (case aO => exact (by (with_reducible repeat (first | apply Kd.R_alloc | apply Kd.R_drewN | apply Kd.R_drew)); exact Kd.R_mono (rF 1 (rF 0 (Kd.R_mono HO_6.out (fun k_ hk => (⟨hk, hk.2⟩ : _ ∧ k_ ≠ gb236))))) (fun _ hk => hk.1.2))); (case aS => exact (below_size (mD2 GE228.out GE236.out))); (case aL => have := LMc11.out; omega); intro v238 w16 ho hb hg hat; rw [← Ny237.out] at ho; have n0_ := aA (blk_grown (g := gb228) (o := .cells #[.int .i64 x229000_1, .slice none 0 0, .int .i64 x229002_1, .int .i64 x229003_1, .slice none 0 0] 27 (0, 0)) (by (with_reducible repeat (first | refine blk_drewN ?_ _ | refine blk_drew ?_ | refine blk_alloc ?_ _)); refine blk_far ?_ NB228_236.out _; (with_reducible repeat (first | refine blk_drewN ?_ _ | refine blk_drew ?_ | refine blk_alloc ?_ _)); refine blk_far ?_ NB228_236.out _; (with_reducible repeat (first | refine blk_drewN ?_ _ | refine blk_drew ?_ | refine blk_alloc ?_ _)); exact BK228.out) hg (Kd.R_ne HO_6.out BK228.out (by decide))); have n1_ := aA (blk_grown (g := gb236) (o := .cells #[.string t233, .string t234] 52 (0, 0)) (by (with_reducible repeat (first | refine blk_drewN ?_ _ | refine blk_drew ?_ | refine blk_alloc ?_ _)); have h_ := BK236.out; exact pK 1 (pK 0 (h_))) hg (Kd.R_away HO_6.out (fun _ hk => hk.2))); have n2_ := aA (hb); have n3_ := aA (ho); clear BK228 BK236 HB HO_6; have BK228 := n0_; have BK236 := n1_; have HB := n2_; have HO239 := n3_; clear n0_ n1_ n2_ n3_ ho hb hg hat))
        go_roundg k1
        case measure => have := HK1.out; omega
        case rel => exact ⟨(y237), (wrap64 (x16_1 + 1)), (x229000_1), (x229002_1), (x229003_1), (by first | rfl | (simp; done) | (simp [*]; done)), H', ⟨by have := HK1.out; omega⟩, ⟨by (with_reducible repeat (first | apply Kd.R_alloc | apply Kd.R_drewN | apply Kd.R_drew)); exact Kd.R_mono HO239.out (fun _ hk => trivial)⟩, ⟨by (with_reducible repeat (first | refine blk_drewN ?_ _ | refine blk_drew ?_ | refine blk_alloc ?_ _)); exact BK228.out⟩, ⟨by repeat (first | (with_reducible first | exact HB.out | apply below_alloc | apply pw_below_drewN | apply below_drew1 | refine below_set ?_ GE228.out | refine below_set ?_ GE236.out) | exact HB.out)⟩⟩
       ·rw [if_neg c11] at H
        exact absurd H (by simp)
      ·replace c10 := Bool.eq_false_iff.mpr c10
       subst c10
       have H1 : (some (0, ([] : List (S52)), 0, 0, ([] : List (S32)), 13)) = some (r1, r2, r3, r4, r5, r6) := by rw [if_neg (show ¬ (false = true) by decide)] at H; exact H
       clear H
       have H := H1
       clear H1
       simp only [Option.some.injEq, Prod.mk.injEq] at H
       obtain ⟨rfl, rfl, rfl, rfl, rfl, rfl⟩ := H
       have p232 : 0 ≤ (x16_1 : Int) := of_decide_eq_true (by first | (with_reducible assumption) | assumption)
       have q232 : x16_1 < (l1.length : Int) := of_decide_eq_true (by first | (with_reducible assumption) | assumption)
       obtain ⟨ad232, e232, hx232_0⟩ := Kd.at_string HR1.out x16_1 p232 q232
       cases e232
       replace hx232_0 := (HB.out.cell (World.block_lt_of_cell? w _ hx232_0)).trans hx232_0
       replace p232 := eq_true p232
       replace q232 := eq_true q232
       go_wp2_with (first | ((with_reducible refine gate_callee (f := 77) rfl ?_); refine goesL_ (some 22) rfl rfl Tryz.func77 (by kernel_rfl) rfl #[.string (rdOf ByteArray.empty l1 x16_1)] rfl mS ?_; (with_reducible refine (foghornref12_label.calls k1 (rdOf ByteArray.empty l1 x16_1) t233 t234 false _ A9.out).mono ?_); rintro e w17 ⟨rfl, hb⟩; refine ⟨_, rfl, ?_⟩; have n0_ := aA (Kd.R_below (mR HO_6.out) hb); have n1_ := aA (bB BK228.out hb); have n2_ := aA (below_step (mD1 GE228.out) hb); clear HO_6 BK228 HB; have HO_6 := n0_; have BK228 := n1_; have HB := n2_; clear n0_ n1_ n2_; (try clear hb); (try clear hb2); (try clear hk); (try clear hi)) | ((with_reducible refine gate_dst (N := 9) rfl ?_); refine box_event ?hg (N := 9) ?hd (cs := #[.string (⟨#[]⟩ : ByteArray), .string (⟨#[]⟩ : ByteArray)]) (t := 52) ?hr ?_; (case hd => rfl); (case hg => rfl); (case hr => first | (go_simp; done) | (go_simp; rfl)); intro gb236 hg w18 hbox hb; have n0_ := aA (Kd.R_below (Kd.R_elderB (mR HO_6.out) gb236 (Nat.le_of_eq hg.symm)) hb); have n1_ := aA (bB BK228.out hb); have n2_ := aA (below_step (mD1 GE228.out) hb); have n3_ := aA (hbox); have n4_ := aA ((bZ hg (mD1 GE228.out))); have n5_ := aA ((bZ hg (mD1 GE228.out))); have n6_ := aA ((bL hg BK228.out)); have n7_ := aA ((bG hg BK228.out)); clear HO_6 BK228 HB; have HO_6 := n0_; have BK228 := n1_; have HB := n2_; have BK236 := n3_; have GW236 := n4_; have GE236 := n5_; have NB228_236 := n6_; have NB236_228 := n7_; clear n0_ n1_ n2_ n3_ n4_ n5_ n6_ n7_ hb hbox hg; have hnb19 := NB236_228.out; have hnc19 := NB228_236.out; obtain ⟨hcz20_0, hcz20_1⟩ := bC2 BK236.out; obtain ⟨hfz20_0, hfz20_1⟩ := bF2 BK236.out; obtain ⟨hcz21_0, hcz21_1, hcz21_2, hcz21_3, hcz21_4⟩ := bC5 BK228.out; obtain ⟨hfz21_0, hfz21_1, hfz21_2, hfz21_3, hfz21_4⟩ := bF5 BK228.out))
       refine bodyPost_ret (results_ct rfl _ _ gb228 27 #[.int .i64 0, .slice none 0 0, .int .i64 0, .int .i64 0, .slice none 0 0] (0, 0) _ rfl (by (with_reducible repeat (first | refine blk_drewN ?_ _ | refine blk_drew ?_ | refine blk_alloc ?_ _)); refine blk_put (cs := #[.int .i64 0, .slice none 0 0, .int .i64 0, .int .i64 0, .slice none 0 0]) ?_ 4 _ rfl; (with_reducible repeat (first | refine blk_drewN ?_ _ | refine blk_drew ?_ | refine blk_alloc ?_ _)); refine blk_put (cs := #[.int .i64 0, .slice none 0 0, .int .i64 0, .int .i64 x229003_1, .slice none 0 0]) ?_ 3 _ rfl; (with_reducible repeat (first | refine blk_drewN ?_ _ | refine blk_drew ?_ | refine blk_alloc ?_ _)); refine blk_put (cs := #[.int .i64 0, .slice none 0 0, .int .i64 x229002_1, .int .i64 x229003_1, .slice none 0 0]) ?_ 2 _ rfl; (with_reducible repeat (first | refine blk_drewN ?_ _ | refine blk_drew ?_ | refine blk_alloc ?_ _)); refine blk_put (cs := #[.int .i64 0, .slice none 0 0, .int .i64 x229002_1, .int .i64 x229003_1, .slice none 0 0]) ?_ 1 _ rfl; (with_reducible repeat (first | refine blk_drewN ?_ _ | refine blk_drew ?_ | refine blk_alloc ?_ _)); refine blk_put (cs := #[.int .i64 x229000_1, .slice none 0 0, .int .i64 x229002_1, .int .i64 x229003_1, .slice none 0 0]) ?_ 0 _ rfl; (with_reducible repeat (first | refine blk_drewN ?_ _ | refine blk_drew ?_ | refine blk_alloc ?_ _)); refine blk_far ?_ NB228_236.out _; (with_reducible repeat (first | refine blk_drewN ?_ _ | refine blk_drew ?_ | refine blk_alloc ?_ _)); refine blk_far ?_ NB228_236.out _; (with_reducible repeat (first | refine blk_drewN ?_ _ | refine blk_drew ?_ | refine blk_alloc ?_ _)); exact BK228.out) Tryz.underlying27 rfl (by kernel_rfl)) rfl ?_
       exact ⟨_, _, by first | rfl | (simp [errW_none, errW_some] <;> rfl) | (simp [*, errW_none, errW_some] <;> rfl), by first | exact Kd.R_nil _ _ _ _ _ | exact Kd.N_nil _ _ _ _ _ | exact Kd.V_nil _ _ _ _ _ | exact Kd.Q_nil _ _ _ _ _ | exact Kd.S_nil _ _ _ _ _, by first | exact Kd.R_nil _ _ _ _ _ | exact Kd.N_nil _ _ _ _ _ | exact Kd.V_nil _ _ _ _ _ | exact Kd.Q_nil _ _ _ _ _ | exact Kd.S_nil _ _ _ _ _, by repeat (first | (with_reducible first | exact HB.out | apply below_alloc | apply pw_below_drewN | apply below_drew1 | refine below_set ?_ GE228.out | refine below_set ?_ GE236.out) | exact HB.out)⟩
     ·rw [if_neg c8] at H
      exact absurd H (by simp)
    ·rw [if_neg c7] at H
     exact absurd H (by simp)
   ·rw [if_neg c6] at H
    have c6b0 : decide (x16_1 < (l1.length : Int)) = false := decide_eq_false c6
    clear c6
    replace H := Option.bind_eq_some_iff.mp H
    obtain ⟨⟨t240, t241⟩, A220, H⟩ := H
    replace H : (if t241 = 0 then (some (a0, t240, 0, 0, ([] : List (S32)), 0)) else (some (0, ([] : List (S52)), 0, 0, ([] : List (S32)), t241))) = some (r1, r2, r3, r4, r5, r6) := H
    have A22 := aA A220
    clear A220
    by_cases c23 : t241 = 0
    ·rw [if_pos c23] at H
     have c23b0 : (t241 == 0) = true := beq_iff_eq.mpr c23
     have c23b1 : (t241 != 0) = false := bne_eq_false_iff_eq.mpr c23
     clear c23
     simp only [Option.some.injEq, Prod.mk.injEq] at H
     obtain ⟨rfl, rfl, rfl, rfl, rfl, rfl⟩ := H
     obtain ⟨Ao24, co24, eo24⟩ := Kd.R_slice HO_6.out
     subst eo24
     go_wp2_with (first | ((with_reducible refine gate_callee (f := 78) rfl ?_); refine goesL_ (some 35) rfl rfl Tryz.func78 (by kernel_rfl) rfl #[.slice Ao24 x6_1.length co24] rfl mS ?_; (with_reducible refine (foghornref10_Sort.calls k1 _ _ x6_1 t240 t241 _ ?side1 ?side2 A22.out).mono ?_); (case side1 => exact mC ((Kd.R_reads' HO_6.out).2.2)); (case side2 => exact (Kd.R_reads' HO_6.out).2.1); rintro e w25 ⟨v242, rfl, ho0, hb⟩; refine ⟨_, rfl, ?_⟩; have n0_ := aA (Kd.R_elder' (mR HO_6.out) (Kd.R_base ho0) hb); have n1_ := aA (Kd.R_lower (Kd.R_new' ho0 (Kd.R_lt (mR HO_6.out))) (below_size (mD1 GE228.out))); have n2_ := aA (bB BK228.out hb); have n3_ := aA (below_step (mD1 GE228.out) hb); clear HO_6 BK228 HB; have HO_6 := n0_; have HO243 := n1_; have BK228 := n2_; have HB := n3_; clear n0_ n1_ n2_ n3_; (try clear hb); (try clear hb2); (try clear hk); (try clear hi); (try clear ho0); obtain ⟨Ao26, co26, eo26⟩ := Kd.R_slice HO243.out; subst eo26; obtain ⟨hcz27_0, hcz27_1, hcz27_2, hcz27_3, hcz27_4⟩ := bC5 BK228.out; obtain ⟨hfz27_0, hfz27_1, hfz27_2, hfz27_3, hfz27_4⟩ := bF5 BK228.out))
     refine bodyPost_ret (results_ct rfl _ _ gb228 27 #[.int .i64 a0, .slice Ao26 t240.length co26, .int .i64 0, .int .i64 0, .slice none 0 0] (0, 0) _ rfl (by (with_reducible repeat (first | refine blk_drewN ?_ _ | refine blk_drew ?_ | refine blk_alloc ?_ _)); have h_ := BK228.out; exact pK 4 (pK 3 (pK 2 (pK 1 (pK 0 (h_)))))) Tryz.underlying27 rfl (by kernel_rfl)) rfl ?_
     exact ⟨_, _, by first | rfl | (simp [errW_none, errW_some] <;> rfl) | (simp [*, errW_none, errW_some] <;> rfl), by (with_reducible repeat (first | apply Kd.R_alloc | apply Kd.R_drewN | apply Kd.R_drew)); exact Kd.R_mono (rF 4 (rF 3 (rF 2 (rF 1 (rF 0 (Kd.R_types HO243.out BK228.out (by decide))))))) (fun _ hk => trivial), by first | exact Kd.R_nil _ _ _ _ _ | exact Kd.N_nil _ _ _ _ _ | exact Kd.V_nil _ _ _ _ _ | exact Kd.Q_nil _ _ _ _ _ | exact Kd.S_nil _ _ _ _ _, by repeat (first | (with_reducible first | exact HB.out | apply below_alloc | apply pw_below_drewN | apply below_drew1 | refine below_set ?_ GE228.out) | exact HB.out)⟩
    ·rw [if_neg c23] at H
     have c23b0 : (t241 == 0) = false := beq_eq_false_iff_ne.mpr c23
     have c23b1 : (t241 != 0) = true := bne_iff_ne.mpr c23
     simp only [Option.some.injEq, Prod.mk.injEq] at H
     obtain ⟨rfl, rfl, rfl, rfl, rfl, rfl⟩ := H
     obtain ⟨Ao28, co28, eo28⟩ := Kd.R_slice HO_6.out
     subst eo28
     go_wp2_with (first | ((with_reducible refine gate_callee (f := 78) rfl ?_); refine goesL_ (some 35) rfl rfl Tryz.func78 (by kernel_rfl) rfl #[.slice Ao28 x6_1.length co28] rfl mS ?_; (with_reducible refine (foghornref10_Sort.calls k1 _ _ x6_1 t240 t241 _ ?side1 ?side2 A22.out).mono ?_); (case side1 => exact mC ((Kd.R_reads' HO_6.out).2.2)); (case side2 => exact (Kd.R_reads' HO_6.out).2.1); rintro e w29 ⟨v242, rfl, ho0, hb⟩; refine ⟨_, rfl, ?_⟩; have n0_ := aA (Kd.R_elder' (mR HO_6.out) (Kd.R_base ho0) hb); have n1_ := aA (Kd.R_lower (Kd.R_new' ho0 (Kd.R_lt (mR HO_6.out))) (below_size (mD1 GE228.out))); have n2_ := aA (bB BK228.out hb); have n3_ := aA (below_step (mD1 GE228.out) hb); clear HO_6 BK228 HB; have HO_6 := n0_; have HO243 := n1_; have BK228 := n2_; have HB := n3_; clear n0_ n1_ n2_ n3_; (try clear hb); (try clear hb2); (try clear hk); (try clear hi); (try clear ho0); obtain ⟨hcz30_0, hcz30_1, hcz30_2, hcz30_3, hcz30_4⟩ := bC5 BK228.out; obtain ⟨hfz30_0, hfz30_1, hfz30_2, hfz30_3, hfz30_4⟩ := bF5 BK228.out))
     refine bodyPost_ret (results_ct rfl _ _ gb228 27 #[.int .i64 0, .slice none 0 0, .int .i64 0, .int .i64 0, .slice none 0 0] (0, 0) _ rfl (by (with_reducible repeat (first | refine blk_drewN ?_ _ | refine blk_drew ?_ | refine blk_alloc ?_ _)); have h_ := BK228.out; exact pK 4 (pK 3 (pK 2 (pK 1 (pK 0 (h_)))))) Tryz.underlying27 rfl (by kernel_rfl)) rfl ?_
     exact ⟨_, _, by first | rfl | (simp [errW_none, errW_some] <;> rfl) | (simp [*, errW_none, errW_some] <;> rfl), by first | exact Kd.R_nil _ _ _ _ _ | exact Kd.N_nil _ _ _ _ _ | exact Kd.V_nil _ _ _ _ _ | exact Kd.Q_nil _ _ _ _ _ | exact Kd.S_nil _ _ _ _ _, by first | exact Kd.R_nil _ _ _ _ _ | exact Kd.N_nil _ _ _ _ _ | exact Kd.V_nil _ _ _ _ _ | exact Kd.Q_nil _ _ _ _ _ | exact Kd.S_nil _ _ _ _ _, by repeat (first | (with_reducible first | exact HB.out | apply below_alloc | apply pw_below_drewN | apply below_drew1 | refine below_set ?_ GE228.out) | exact HB.out)⟩
end Go.Proofs.YtjfknmlchdifjaaGreatDoorQ.P
namespace Go.Proofs.YtjfknmlchdifjaaGreatDoorQ.P
open Go.RowKit Go.Proofs.YtjfknmlchdifjaaGreatDoorW.PrintWords Go.Proofs.YtjfknmlchdifjaaGreatDoorW.PrintLast Go.Proofs.YtjfknmlchdifjaaGreatDoorW.PrintMore
attribute [local go_sem] max2_int min2_int max_two min_two max_three min_three max_four min_four
def foghornref12_sign.f (a0 : Int) : Option (ByteArray) := if 0 ≤ a0 then (if a0 ≤ (wrap64 (a0 + 1)) then (if (wrap64 (a0 + 1)) ≤ 4 then (some ((⟨#[61, 33, 94, 63]⟩ : ByteArray).extract (a0 : Int).toNat ((wrap64 (a0 + 1)) : Int).toNat)) else (none)) else (none)) else (none)
set_option maxHeartbeats 8000000 in
set_option maxRecDepth 100000 in
theorem foghornref12_sign.calls (a0 : Int) (r : ByteArray) (w : World) (h : foghornref12_sign.f a0 = some r) :
  Calls Tryz.prog 42 #[.int .i64 a0] w fun e w' => e = .returned (.string r) ∧ Drawn0 w w' := by
 have H : (if 0 ≤ a0 then (if a0 ≤ (wrap64 (a0 + 1)) then (if (wrap64 (a0 + 1)) ≤ 4 then (some ((⟨#[61, 33, 94, 63]⟩ : ByteArray).extract (a0 : Int).toNat ((wrap64 (a0 + 1)) : Int).toNat)) else (none)) else (none)) else (none)) = some r := h
 clear h
 by_cases c2 : 0 ≤ a0
 ·rw [if_pos c2] at H
  have c2b0 := eq_true c2
  have c2b1 := decide_eq_true c2
  clear c2
  by_cases c3 : a0 ≤ (wrap64 (a0 + 1))
  ·rw [if_pos c3] at H
   have c3b0 := eq_true c3
   have c3b1 := decide_eq_true c3
   by_cases c4 : (wrap64 (a0 + 1)) ≤ 4
   ·rw [if_pos c4] at H
    have c4b0 := eq_true c4
    have c4b1 := decide_eq_true c4
    obtain rfl := Option.some.inj H
    go_enter Tryz.func42, Tryz.ntmps42
    go_wp2
    go_ret
    exact ⟨by first | rfl | (simp; done) | (simp [*]; done), by repeat (first | exact Drawn0.refl _ | apply Drawn0.step)⟩
   ·rw [if_neg c4] at H
    exact absurd H (by simp)
  ·rw [if_neg c3] at H
   exact absurd H (by simp)
 ·rw [if_neg c2] at H
  exact absurd H (by simp)
end Go.Proofs.YtjfknmlchdifjaaGreatDoorQ.P
namespace Go.Proofs.YtjfknmlchdifjaaGreatDoor
open Go.RowKit
attribute [local go_sem high] ext_size ext_cell ext_frozen alloc_cell alloc_frozen
theorem refMatcher_any (x : Mat) (w : World) (h1 : x.name.size ≤ maxLen) (h2 : x.value.size ≤ maxLen) :
    Calls Tryz.prog 22 #[matV x] w fun e w' => e = .returned (.bool (matB x)) ∧ Below w.heap.size w w' := by
  obtain ⟨k, n, v⟩ := x
  have HN := Lib.hid fun W => refName_any n W h1
  have HV := Lib.hid fun W => refValue_any v W h2
  unfold matV matB
  simp only at h1 h2 ⊢
  obtain ⟨b1, hb1⟩ : ∃ b, b = nameB n := ⟨_, rfl⟩
  obtain ⟨b2, hb2⟩ : ∃ b, b = valB v := ⟨_, rfl⟩
  rw [← hb1] at HN ⊢
  rw [← hb2] at HV ⊢
  clear hb1 hb2
  have he := empty_dec v
  by_cases c1 : 0 ≤ k ∧ k ≤ 3
  · obtain ⟨c1, c2⟩ := c1
    cases b1
    case false =>
      go_enter Tryz.func22, Tryz.ntmps22
      go_wp2_with fail
      refine (HN.out _).mono ?_
      rintro e w' ⟨rfl, hb⟩
      obtain ⟨y1, rfl⟩ := ext_of hb
      clear hb
      go_wp2_with fail
      go_ret
      exact ⟨ret_bool (by simp [c1, c2]), (by repeat (first | exact Below.refl _ _ | apply bal | apply bext | apply bdr | apply bdrN | (refine bst ?_ _ (by simp only [ext_size, size_alloc, size_set]; omega))))⟩
    case true =>
      cases b2
      case false =>
        go_enter Tryz.func22, Tryz.ntmps22
        go_wp2_with fail
        refine (HN.out _).mono ?_
        rintro e w' ⟨rfl, hb⟩
        obtain ⟨y1, rfl⟩ := ext_of hb
        clear hb
        go_wp2_with fail
        refine (HV.out _).mono ?_
        rintro e w' ⟨rfl, hb⟩
        obtain ⟨y2, rfl⟩ := ext_of hb
        clear hb
        go_wp2_with fail
        go_ret
        exact ⟨ret_bool (by simp [c1, c2]), (by repeat (first | exact Below.refl _ _ | apply bal | apply bext | apply bdr | apply bdrN | (refine bst ?_ _ (by simp only [ext_size, size_alloc, size_set]; omega))))⟩
      case true =>
        by_cases c3 : k = 3
        · subst c3
          have HE := Lib.hid he
          clear he
          go_enter Tryz.func22, Tryz.ntmps22
          go_wp2_with fail
          refine (HN.out _).mono ?_
          rintro e w' ⟨rfl, hb⟩
          obtain ⟨y1, rfl⟩ := ext_of hb
          clear hb
          go_wp2_with fail
          refine (HV.out _).mono ?_
          rintro e w' ⟨rfl, hb⟩
          obtain ⟨y2, rfl⟩ := ext_of hb
          clear hb
          go_wp2_with fail
          all_goals
            go_ret
            refine ⟨ret_bool ?_, (by repeat (first | exact Below.refl _ _ | apply bal | apply bext | apply bdr | apply bdrN | (refine bst ?_ _ (by simp only [ext_size, size_alloc, size_set]; omega))))⟩
            have := HE.out
            simp_all
        · have c4 : (k != 3) = true := by simpa using c3
          clear he
          go_enter Tryz.func22, Tryz.ntmps22
          go_wp2_with fail
          refine (HN.out _).mono ?_
          rintro e w' ⟨rfl, hb⟩
          obtain ⟨y1, rfl⟩ := ext_of hb
          clear hb
          go_wp2_with fail
          refine (HV.out _).mono ?_
          rintro e w' ⟨rfl, hb⟩
          obtain ⟨y2, rfl⟩ := ext_of hb
          clear hb
          go_wp2_with fail
          go_ret
          exact ⟨ret_bool (by simp [c1, c2, c3]), (by repeat (first | exact Below.refl _ _ | apply bal | apply bext | apply bdr | apply bdrN | (refine bst ?_ _ (by simp only [ext_size, size_alloc, size_set]; omega))))⟩
  · clear he
    rcases (show k < 0 ∨ 3 < k by omega) with c2 | c2
    all_goals
      go_enter Tryz.func22, Tryz.ntmps22
      go_wp2_with fail
      all_goals
        go_ret
        refine ⟨ret_bool ?_, (by repeat (first | exact Below.refl _ _ | apply bal | apply bext | apply bdr | apply bdrN | (refine bst ?_ _ (by simp only [ext_size, size_alloc, size_set]; omega))))⟩
        first
          | (rw [decide_eq_false (p := 0 ≤ k) (by omega)]; rfl)
          | (rw [decide_eq_false (p := k ≤ 3) (by omega)]; simp)
def matsB (ms : List Mat) : Bool := decide (ms.length ≤ 4) && !ms.any (fun m => !matB m)
end Go.Proofs.YtjfknmlchdifjaaGreatDoor
namespace Go.Proofs.YtjfknmlchdifjaaGreatDoor
open Go.RowKit
attribute [local go_sem high] ext_size ext_cell ext_frozen alloc_cell alloc_frozen
theorem lab_ext {x y : Lab} (h : (x.name.toList == y.name.toList) = true) (h2 : (x.value.toList == y.value.toList) = true) : x = y := by
  obtain ⟨n, v⟩ := x
  obtain ⟨n2, v2⟩ := y
  have e1 : n = n2 := bytes_of_eq h
  have e2 : v = v2 := bytes_of_eq h2
  rw [e1, e2]
theorem refSameL_any (u v : Value) (xs ys : List Lab) (w : World) (hS : SlAt w u 2 xs.length (labsC xs)) (hT : SlAt w v 2 ys.length (labsC ys)) :
    Calls Tryz.prog 43 #[u, v] w fun e w' => e = .returned (.bool (decide (xs = ys))) ∧ Below w.heap.size w w' := by
  obtain ⟨a, c, rfl, hnc, hcm⟩ := hS.form
  obtain ⟨a2, c2, rfl, hnc2, hcm2⟩ := hT.form
  have hm := hS.le
  unfold maxLen at hm
  have HS := Lib.hid hS
  have HT := Lib.hid hT
  clear hS hT
  obtain ⟨n, hxn⟩ : ∃ n, xs.length = n := ⟨_, rfl⟩
  obtain ⟨n2, hyn⟩ : ∃ n, ys.length = n := ⟨_, rfl⟩
  rw [hxn] at HS hm hnc ⊢
  rw [hyn] at HT hnc2 ⊢
  have HXN := Lib.hid hxn
  have HYN := Lib.hid hyn
  obtain ⟨r, hr⟩ : ∃ r, r = decide (xs = ys) := ⟨_, rfl⟩
  rw [← hr]
  have HR := Lib.hid hr
  clear hxn hyn hr
  by_cases hl : n = n2
  · subst hl
    go_enter Tryz.func43, Tryz.ntmps43
    go_wp2
    go_loopw [5, 13] (fun _ i wr => ∃ k : Nat, k ≤ n ∧ i = .int .i64 k ∧ (∀ j (h1 : j < xs.length) (h2 : j < ys.length), j < k → xs[j] = ys[j]) ∧ Below w.heap.size w wr) (fun _ i _ => n - (intOf i).toNat)
    case atStart => exact ⟨0, Nat.zero_le _, rfl, fun j _ _ hj => absurd hj (by omega), Below.refl _ _⟩
    case round =>
      obtain ⟨k, hk, rfl, hno, hbel⟩ := hrel
      have HN := Lib.hid hno
      clear hno
      obtain ⟨xr, rfl⟩ := ext_of hbel
      clear hbel
      by_cases hlt : k < n
      · have hl1 : k < xs.length := by rw [HXN.out]; exact hlt
        have hl2 : k < ys.length := by rw [HYN.out]; exact hlt
        obtain ⟨b, o, rfl, hbl, hcell⟩ := HS.out.at (by omega)
        have g0 := labs_get xs k hl1
        have k0 : w.cell? ⟨b, o + k * 2, none⟩ = some (.string xs[k].name) := hcell _ _ g0.1
        have k1 : w.cell? ⟨b, o + k * 2 + 1, none⟩ = some (.string xs[k].value) := by rw [Nat.add_assoc]; exact hcell _ _ g0.2
        clear hcell g0
        obtain ⟨b2, o2, rfl, hbl2, hcell⟩ := HT.out.at (by omega)
        have g0 := labs_get ys k hl2
        have k2 : w.cell? ⟨b2, o2 + k * 2, none⟩ = some (.string ys[k].name) := hcell _ _ g0.1
        have k3 : w.cell? ⟨b2, o2 + k * 2 + 1, none⟩ = some (.string ys[k].value) := by rw [Nat.add_assoc]; exact hcell _ _ g0.2
        clear hcell g0
        obtain ⟨x, hx⟩ : ∃ x, x = xs[k] := ⟨_, rfl⟩
        obtain ⟨y, hy⟩ : ∃ y, y = ys[k] := ⟨_, rfl⟩
        rw [← hx] at k0 k1
        rw [← hy] at k2 k3
        have HX := Lib.hid hx
        have HY := Lib.hid hy
        clear hx hy
        cases q1 : (x.name.toList == y.name.toList)
        · have HQ := Lib.hid (show ¬ x = y by rintro rfl; simp at q1)
          have i1 : (k : Int) < (n : Int) := by omega
          go_wp2
          refine wp_region_ext (by kernel_rfl) (by kernel_rfl) ?_
          repeat (go_big_quiet_step ((fail)))
          refine wpQuiet_nil ?_
          intro _ hw'
          obtain ⟨y1, rfl⟩ := hw'
          go_wp2
          go_ret
          refine ⟨ret_bool ?_, (by repeat (first | exact Below.refl _ _ | apply bal | apply bext | apply bdr | apply bdrN | (refine bst ?_ _ (by simp only [ext_size, size_alloc, size_set]; omega))))⟩
          rw [HR.out]
          symm
          apply decide_eq_false
          rintro rfl
          exact HQ.out (HX.out.trans HY.out.symm)
        · cases q2 : (x.value.toList == y.value.toList)
          · have HQ := Lib.hid (show ¬ x = y by rintro rfl; simp at q2)
            have i1 : (k : Int) < (n : Int) := by omega
            go_wp2
            refine wp_region_ext (by kernel_rfl) (by kernel_rfl) ?_
            repeat (go_big_quiet_step ((fail)))
            refine wpQuiet_nil ?_
            intro _ hw'
            obtain ⟨y1, rfl⟩ := hw'
            go_wp2
            go_ret
            refine ⟨ret_bool ?_, (by repeat (first | exact Below.refl _ _ | apply bal | apply bext | apply bdr | apply bdrN | (refine bst ?_ _ (by simp only [ext_size, size_alloc, size_set]; omega))))⟩
            rw [HR.out]
            symm
            apply decide_eq_false
            rintro rfl
            exact HQ.out (HX.out.trans HY.out.symm)
          · have HQ := Lib.hid (lab_ext q1 q2)
            have i1 : (k : Int) < (n : Int) := by omega
            go_wp2
            refine wp_region_ext (by kernel_rfl) (by kernel_rfl) ?_
            repeat (go_big_quiet_step ((fail)))
            refine wpQuiet_nil ?_
            intro _ hw'
            obtain ⟨y1, rfl⟩ := hw'
            go_wp2
            refine ⟨⟨k + 1, by omega, by go_num, fun j h1 h2 hjk => ?_, (by repeat (first | exact Below.refl _ _ | apply bal | apply bext | apply bdr | apply bdrN | (refine bst ?_ _ (by simp only [ext_size, size_alloc, size_set]; omega))))⟩, by simp [intOf]; omega⟩
            rcases Nat.lt_succ_iff_lt_or_eq.1 hjk with h | rfl
            · exact HN.out j h1 h2 h
            · exact HX.out.symm.trans (HQ.out.trans HY.out)
      · go_wp2
        go_ret
        refine ⟨ret_bool ?_, (by repeat (first | exact Below.refl _ _ | apply bal | apply bext | apply bdr | apply bdrN | (refine bst ?_ _ (by simp only [ext_size, size_alloc, size_set]; omega))))⟩
        rw [HR.out]
        symm
        apply decide_eq_true
        exact List.ext_getElem (HXN.out.trans HYN.out.symm) fun j h1 h2 => HN.out j h1 h2 (by have := HXN.out; omega)
  · have hn : ((n : Int) != n2) = true := by simp; omega
    go_enter Tryz.func43, Tryz.ntmps43
    go_wp2
    go_ret
    refine ⟨ret_bool ?_, (by repeat (first | exact Below.refl _ _ | apply bal | apply bext | apply bdr | apply bdrN | (refine bst ?_ _ (by simp only [ext_size, size_alloc, size_set]; omega))))⟩
    rw [HR.out]
    symm
    apply decide_eq_false
    intro h
    exact hl (HXN.out.symm.trans ((congrArg _ h).trans HYN.out))
end Go.Proofs.YtjfknmlchdifjaaGreatDoor
namespace Go.Proofs.YtjfknmlchdifjaaGreatDoorQ.P
open Go.RowKit Go.Proofs.YtjfknmlchdifjaaGreatDoorW.PrintWords Go.Proofs.YtjfknmlchdifjaaGreatDoor
def foghornref10_Same.f (l0 l1 : List S52) : Option Bool := some (decide (l0.map toLab = l1.map toLab))
theorem foghornref10_Same.calls (A0 : Option Addr) (c0 : Nat) (l0 : List S52) (A1 : Option Addr) (c1 : Nat) (l1 : List S52) (r : Bool) (w : World) (hr0 : Kd.C k52 w A0 l0.length l0) (hc0 : l0.length ≤ c0) (hr1 : Kd.C k52 w A1 l1.length l1) (hc1 : l1.length ≤ c1) (h : foghornref10_Same.f l0 l1 = some r) :
    Calls Tryz.prog 43 #[.slice A0 l0.length c0, .slice A1 l1.length c1] w fun e w' => e = .returned (.bool r) ∧ Below w.heap.size w w' := by
  obtain rfl := Option.some.inj h
  exact refSameL_any _ _ _ _ w (labs_c hr0 hc0) (labs_c hr1 hc1)
def foghornref10_Matcher.f (a0_0 : Int) (a0_1 : ByteArray) (a0_2 : ByteArray) : Option (Bool) := if matOkB ⟨a0_0, a0_1, a0_2⟩ = true then some (matB ⟨a0_0, a0_1, a0_2⟩) else none
theorem foghornref10_Matcher.calls (a0_0 : Int) (a0_1 : ByteArray) (a0_2 : ByteArray) (r : Bool) (w : World) (h : foghornref10_Matcher.f a0_0 a0_1 a0_2 = some r) :
    Calls Tryz.prog 22 #[.agg #[.int .i64 a0_0, .string a0_1, .string a0_2]] w fun e w' => e = .returned (.bool r) ∧ Below w.heap.size w w' := by
  obtain ⟨h1, rfl⟩ := if_some h
  simp only [matOkB, Bool.and_eq_true, decide_eq_true_eq] at h1
  exact refMatcher_any ⟨a0_0, a0_1, a0_2⟩ w h1.1 h1.2
def foghornref10_Matchers.f (l0 : List S32) : Option Bool := if matsOkB l0 = true then some (matsB (l0.map toMat)) else none
end Go.Proofs.YtjfknmlchdifjaaGreatDoorQ.P
namespace Go.Proofs.YtjfknmlchdifjaaGreatDoorQ.P
open Go.RowKit Go.Proofs.YtjfknmlchdifjaaGreatDoorW.PrintWords Go.Proofs.YtjfknmlchdifjaaGreatDoorW.PrintLast Go.Proofs.YtjfknmlchdifjaaGreatDoorW.PrintMore
attribute [local go_sem] max2_int min2_int max_two min_two max_three min_three max_four min_four
mutual
def foghornref12_Asked.l0 : Nat → ByteArray → Int → Option (Int × ByteArray × ByteArray × Bool)
 | 0, _, _ => none
 | k + 1, x0, x4 => if x4 < (x0.size : Int) then (foghornref12_Asked.l1 k x0 x4 0) else (some (0, (⟨#[]⟩ : ByteArray), (⟨#[]⟩ : ByteArray), false))
def foghornref12_Asked.l1 : Nat → ByteArray → Int → Int → Option (Int × ByteArray × ByteArray × Bool)
 | 0, _, _, _ => none
 | k + 1, x0, x4, x5 => if x5 < 4 then (if 0 ≤ x4 then (if x4 ≤ (wrap64 (x4 + 1)) then (if (wrap64 (x4 + 1)) ≤ (x0.size : Int) then ((foghornref12_sign.f x5).bind fun t245 => (if (x0.extract (x4 : Int).toNat ((wrap64 (x4 + 1)) : Int).toNat).toList = t245.toList then (if x4 ≤ (x0.size : Int) then (if 0 ≤ (wrap64 (x4 + 1)) then ((foghornref10_Matcher.f x5 (x0.extract 0 (x4 : Int).toNat) (x0.extract ((wrap64 (x4 + 1)) : Int).toNat x0.size)).bind fun t247 => (some (x5, x0.extract 0 (x4 : Int).toNat, x0.extract ((wrap64 (x4 + 1)) : Int).toNat x0.size, t247))) else (none)) else (none)) else (foghornref12_Asked.l1 k x0 x4 (wrap64 (x5 + 1))))) else (none)) else (none)) else (none)) else (foghornref12_Asked.l0 k x0 (wrap64 (x4 + 1)))
end
def foghornref12_Asked.f (k : Nat) (a0 : ByteArray) : Option (Int × ByteArray × ByteArray × Bool) := foghornref12_Asked.l0 k a0 0
theorem foghornref12_Asked.mono_l : ∀ k, (∀ y0 y1, LeO (foghornref12_Asked.l0 k y0 y1) (foghornref12_Asked.l0 (k + 1) y0 y1)) ∧ (∀ y0 y1 y2, LeO (foghornref12_Asked.l1 k y0 y1 y2) (foghornref12_Asked.l1 (k + 1) y0 y1 y2))
 | 0 => ⟨fun _ _ r h => by simp [foghornref12_Asked.l0] at h, fun _ _ _ r h => by simp [foghornref12_Asked.l1] at h⟩
 | k + 1 => by
  obtain ⟨ih0, ih1⟩ := foghornref12_Asked.mono_l k
  refine ⟨?_, ?_⟩
  ·intro y0 y1
   unfold foghornref12_Asked.l0
   repeat' first
   | (with_reducible exact ih0 _ _)
   | (with_reducible exact ih1 _ _ _)
   | (with_reducible exact LeO.refl _)
   | (with_reducible exact LeO.none _)
   | (with_reducible refine LeO.ite ?_ ?_)
   | (with_reducible refine LeO.bind ?_ (fun _ => ?_))
   | exact ih0 _ _
   | exact ih1 _ _ _
   | exact LeO.none _
   | refine LeO.ite ?_ ?_
   | refine LeO.bind ?_ (fun _ => ?_)
  ·intro y0 y1 y2
   unfold foghornref12_Asked.l1
   repeat' first
   | (with_reducible exact ih0 _ _)
   | (with_reducible exact ih1 _ _ _)
   | (with_reducible exact LeO.refl _)
   | (with_reducible exact LeO.none _)
   | (with_reducible refine LeO.ite ?_ ?_)
   | (with_reducible refine LeO.bind ?_ (fun _ => ?_))
   | exact ih0 _ _
   | exact ih1 _ _ _
   | exact LeO.none _
   | refine LeO.ite ?_ ?_
   | refine LeO.bind ?_ (fun _ => ?_)
theorem foghornref12_Asked.mono : ∀ a0 k, LeO (foghornref12_Asked.f k a0) (foghornref12_Asked.f (k + 1) a0) := by
 intro a0 k
 obtain ⟨ih0, ih1⟩ := foghornref12_Asked.mono_l k
 unfold foghornref12_Asked.f
 repeat' first
   | (with_reducible exact ih0 _ _)
   | (with_reducible exact ih1 _ _ _)
   | (with_reducible exact LeO.refl _)
   | (with_reducible exact LeO.none _)
   | (with_reducible refine LeO.ite ?_ ?_)
   | (with_reducible refine LeO.bind ?_ (fun _ => ?_))
   | exact ih0 _ _
   | exact ih1 _ _ _
   | exact LeO.none _
   | refine LeO.ite ?_ ?_
   | refine LeO.bind ?_ (fun _ => ?_)
def foghornref12_Asked.T7 : Bool × List (List Nat × List Nat) := (true, [([], []), ([], []), ([], []), ([2], [2]), ([0, 1, 3], [0, 1, 3]), ([], []), ([5], [5]), ([4, 6], [4, 6])])
def foghornref12_Asked.B7 : List Nat := [0, 0, 0, 4, 15, 0, 32, 127]
theorem foghornref12_Asked.tab7 : rtab .any (opsOf Tryz.f13 7) = foghornref12_Asked.T7 := by kernel_rfl
theorem foghornref12_Asked.bits7 : waitsOk foghornref12_Asked.T7.2 foghornref12_Asked.B7 = true := by kernel_rfl
def foghornref12_Asked.T8 : Bool × List (List Nat × List Nat) := (true, [([], []), ([], []), ([], []), ([1, 2], [1, 2]), ([], []), ([], []), ([5], [5]), ([4, 6], [4, 6]), ([0, 3, 7], [0, 3, 7]), ([], []), ([9, 8, 0, 1, 2, 3, 4, 5, 6, 7, 8, 9], [8, 9])])
def foghornref12_Asked.B8 : List Nat := [0, 0, 0, 6, 0, 0, 32, 112, 255, 0, 1023]
theorem foghornref12_Asked.tab8 : rtab .any (opsOf Tryz.f13 8) = foghornref12_Asked.T8 := by kernel_rfl
theorem foghornref12_Asked.bits8 : waitsOk foghornref12_Asked.T8.2 foghornref12_Asked.B8 = true := by kernel_rfl
set_option maxHeartbeats 8000000 in
set_option maxRecDepth 100000 in
theorem foghornref12_Asked.calls (k : Nat) (a0 : ByteArray) (r1 : Int) (r2 : ByteArray) (r3 : ByteArray) (r4 : Bool) (w : World) (h : foghornref12_Asked.f k a0 = some (r1, r2, r3, r4)) :
  Calls Tryz.prog 13 #[.string a0] w fun e w' => e = .returned (.tuple #[.agg #[.int .i64 r1, .string r2, .string r3], .bool r4]) ∧ Below w.heap.size w w' := by
 have hu32 := Tryz.underlying32
 have HB := aA (Below.refl w.heap.size w)
 have H : (foghornref12_Asked.l0 k a0 0) = some (r1, r2, r3, r4) := h
 clear h
 have H' := aA H
 clear H
 go_enter Tryz.func13, Tryz.ntmps13
 go_wp2_with (first | ((with_reducible refine gate_dst (N := 2) rfl ?_); refine box_event ?hg (N := 2) ?hd (cs := #[.int .i64 0, .string (⟨#[]⟩ : ByteArray), .string (⟨#[]⟩ : ByteArray)]) (t := 32) ?hr ?_; (case hd => rfl); (case hg => rfl); (case hr => first | (go_simp; done) | (go_simp; rfl)); intro gb244 hg w2 hbox hb; have n0_ := aA (below_step mB hb); have n1_ := aA (hbox); have n2_ := aA ((bZ hg mB)); have n3_ := aA ((bZ hg mB)); clear HB; have HB := n0_; have BK244 := n1_; have GW244 := n2_; have GE244 := n3_; clear n0_ n1_ n2_ n3_ hb hbox hg))
 go_loopg [4] k (fun kq v4 w' => ∃ (x4_1 : Int) (x245000_1 : Int) (x245001_1 : ByteArray) (x245002_1 : ByteArray), v4 = .int .i64 x4_1 ∧ Aside0 (foghornref12_Asked.l0 kq a0 x4_1 = some (r1, r2, r3, r4)) ∧ Aside0 (kq ≤ k) ∧ Aside0 (w'.heap[gb244]? = some (.cells #[.int .i64 x245000_1, .string x245001_1, .string x245002_1] 32 (0, 0))) ∧ Aside0 (Below w.heap.size w w'))
 case atStart => exact ⟨(0), (0), ((⟨#[]⟩ : ByteArray)), ((⟨#[]⟩ : ByteArray)), (by first | rfl | (simp; done) | (simp [*]; done)), H', ⟨Nat.le_refl _⟩, ⟨by (with_reducible repeat (first | refine blk_drewN ?_ _ | refine blk_drew ?_ | refine blk_alloc ?_ _)); exact BK244.out⟩, ⟨by repeat (first | (with_reducible first | exact HB.out | apply below_alloc | apply pw_below_drewN | apply below_drew1 | refine below_set ?_ GE244.out) | exact HB.out)⟩⟩
 case round =>
  clear H'
  try clear c1
  try clear p2
  obtain ⟨x4_1, x245000_1, x245001_1, x245002_1, rfl, HA, HK1, BK244, HB⟩ := hrel
  cases gk with
  | zero => exact absurd HA.out (by simp [foghornref12_Asked.l0])
  | succ k1 =>
   have H := HA.out
   clear HA
   simp only [foghornref12_Asked.l0] at H
   by_cases c3 : x4_1 < (a0.size : Int)
   ·rw [if_pos c3] at H
    have c3b0 : decide (x4_1 < (a0.size : Int)) = true := decide_eq_true c3
    clear c3
    have H' := aA H
    clear H
    go_wp2
    go_loopg [5] k1 (fun kq v5 w' => ∃ (x5_2 : Int) (x245000_2 : Int) (x245001_2 : ByteArray) (x245002_2 : ByteArray), v5 = .int .i64 x5_2 ∧ Aside0 (foghornref12_Asked.l1 kq a0 x4_1 x5_2 = some (r1, r2, r3, r4)) ∧ Aside0 (kq ≤ k1) ∧ Aside0 (w'.heap[gb244]? = some (.cells #[.int .i64 x245000_2, .string x245001_2, .string x245002_2] 32 (0, 0))) ∧ Aside0 (Below w.heap.size w w'))
    case atStart => exact ⟨(0), (x245000_1), (x245001_1), (x245002_1), (by first | rfl | (simp; done) | (simp [*]; done)), H', ⟨Nat.le_refl _⟩, ⟨by (with_reducible repeat (first | refine blk_drewN ?_ _ | refine blk_drew ?_ | refine blk_alloc ?_ _)); exact BK244.out⟩, ⟨by repeat (first | (with_reducible first | exact HB.out | apply below_alloc | apply pw_below_drewN | apply below_drew1 | refine below_set ?_ GE244.out) | exact HB.out)⟩⟩
    case round =>
     clear H'
     try clear c1
     try clear p2
     try clear c3
     try clear c3b0
     try clear p2
     obtain ⟨x5_2, x245000_2, x245001_2, x245002_2, rfl, HA, HK2, BK244, HB⟩ := hrel
     cases gk with
     | zero => exact absurd HA.out (by simp [foghornref12_Asked.l1])
     | succ k2 =>
      have H := HA.out
      clear HA
      simp only [foghornref12_Asked.l1] at H
      by_cases c4 : x5_2 < 4
      ·rw [if_pos c4] at H
       have c4b0 : decide (x5_2 < 4) = true := decide_eq_true c4
       clear c4
       by_cases c5 : 0 ≤ x4_1
       ·rw [if_pos c5] at H
        have c5b0 := eq_true c5
        have c5b1 := decide_eq_true c5
        clear c5
        by_cases c6 : x4_1 ≤ (wrap64 (x4_1 + 1))
        ·rw [if_pos c6] at H
         have c6b0 := eq_true c6
         have c6b1 := decide_eq_true c6
         by_cases c7 : (wrap64 (x4_1 + 1)) ≤ (a0.size : Int)
         ·rw [if_pos c7] at H
          have c7b0 := eq_true c7
          have c7b1 := decide_eq_true c7
          replace H := Option.bind_eq_some_iff.mp H
          obtain ⟨t245, A80, H⟩ := H
          replace H : (if (a0.extract (x4_1 : Int).toNat ((wrap64 (x4_1 + 1)) : Int).toNat).toList = t245.toList then (if x4_1 ≤ (a0.size : Int) then (if 0 ≤ (wrap64 (x4_1 + 1)) then ((foghornref10_Matcher.f x5_2 (a0.extract 0 (x4_1 : Int).toNat) (a0.extract ((wrap64 (x4_1 + 1)) : Int).toNat a0.size)).bind fun t247 => (some (x5_2, a0.extract 0 (x4_1 : Int).toNat, a0.extract ((wrap64 (x4_1 + 1)) : Int).toNat a0.size, t247))) else (none)) else (none)) else (foghornref12_Asked.l1 k2 a0 x4_1 (wrap64 (x5_2 + 1)))) = some (r1, r2, r3, r4) := H
          have A8 := aA A80
          clear A80
          by_cases c9 : (a0.extract (x4_1 : Int).toNat ((wrap64 (x4_1 + 1)) : Int).toNat).toList = t245.toList
          ·rw [if_pos c9] at H
           have c9b0 : ((a0.extract (x4_1 : Int).toNat ((wrap64 (x4_1 + 1)) : Int).toNat).toList == t245.toList) = true := beq_iff_eq.mpr c9
           have c9b1 : ((a0.extract (x4_1 : Int).toNat ((wrap64 (x4_1 + 1)) : Int).toNat).toList != t245.toList) = false := bne_eq_false_iff_eq.mpr c9
           clear c9
           have c10b0 := eq_true (of_decide_eq_true (by first | (with_reducible assumption) | assumption) : 0 ≤ x4_1)
           by_cases c11 : x4_1 ≤ (a0.size : Int)
           ·rw [if_pos c11] at H
            have c11b0 := eq_true c11
            have c11b1 := decide_eq_true c11
            clear c11
            obtain ⟨ji12, hji12⟩ : ∃ j_ : Int, (wrap64 (x4_1 + 1)) = j_ := ⟨_, rfl⟩
            replace H : (if 0 ≤ (ji12) then ((foghornref10_Matcher.f x5_2 (a0.extract 0 (x4_1 : Int).toNat) (a0.extract ((ji12) : Int).toNat a0.size)).bind fun t247 => (some (x5_2, a0.extract 0 (x4_1 : Int).toNat, a0.extract ((ji12) : Int).toNat a0.size, t247))) else (none)) = some (r1, r2, r3, r4) := by first | (rw [hji12] at H; exact H) | (simp only [hji12] at H ⊢; exact H)
            (try rw [hji12] at c6b0)
            (try rw [hji12] at c6b1)
            (try rw [hji12] at c6)
            (try rw [hji12] at c7b0)
            (try rw [hji12] at c7b1)
            (try rw [hji12] at c7)
            (try rw [hji12] at c9b0)
            (try rw [hji12] at c9b1)
            (try rw [hji12] at A8)
            have hji12w : (IntKind.i64.wrap (x4_1 + 1)) = ji12 := (i64_w _).trans hji12
            by_cases c13 : 0 ≤ (ji12)
            ·rw [if_pos c13] at H
             have c13b0 := eq_true c13
             have c13b1 := decide_eq_true c13
             clear c13
             have c14b0 := eq_true (of_decide_eq_true (by first | (with_reducible assumption) | assumption) : (ji12) ≤ (a0.size : Int))
             replace H := Option.bind_eq_some_iff.mp H
             obtain ⟨t247, A150, H⟩ := H
             replace H : (some (x5_2, a0.extract 0 (x4_1 : Int).toNat, a0.extract ((ji12) : Int).toNat a0.size, t247)) = some (r1, r2, r3, r4) := H
             have A15 := aA A150
             clear A150
             simp only [Option.some.injEq, Prod.mk.injEq] at H
             obtain ⟨rfl, rfl, rfl, rfl⟩ := H
             try go_wp2
             have n0_ := aA (blk_drew BK244.out)
             have n1_ := aA (below_drew1 HB.out)
             clear BK244
             clear HB
             have BK244 := n0_
             have HB := n1_
             clear n0_ n1_
             refine start_ (n := 8) (S := fun w' => True) (ds := []) (bA 8 0) (by kernel_rfl) rfl rfl trivial (fun hHeld => ?_); refine with_tabW foghornref12_Asked.tab7 foghornref12_Asked.bits7 (fun HT_ HW_ => ?_)
             generalize wr.drew = w16 at BK244 HB hHeld ⊢
             refine pure_ (i := 0) (N := some 17) (v := ?_) (a' := ?_) (bA 8 1) rfl rfl (any_of HT_.out (by kernel_rfl)) (fun _ _ _ h => h) (Or.inl ⟨by rfl, ?_⟩) ?_ ?_
             rotate_left
             ·intro w'
              go_simp
              with_reducible rfl
             rotate_left
             ·exact mP
             refine pure_ (i := 1) (N := some 18) (v := ?_) (a' := ?_) (bA 8 3) rfl rfl (any_of HT_.out (by kernel_rfl)) (fun _ _ _ h => h) (Or.inl ⟨by rfl, ?_⟩) ?_ ?_
             rotate_left
             ·intro w'
              go_simp
              with_reducible rfl
             rotate_left
             ·exact mP
             refine pure_ (i := 2) (N := some 19) (v := ?_) (a' := ?_) (bA 8 7) rfl rfl (any_of HT_.out (by kernel_rfl)) (fun _ _ _ h => h) (Or.inl ⟨by rfl, ?_⟩) ?_ ?_
             rotate_left
             ·intro w'
              go_simp
              with_reducible rfl
             rotate_left
             ·exact mP
             refine pure_ (i := 3) (N := some 20) (v := ?_) (a' := ?_) (bA 8 15) rfl rfl (any_of HT_.out (by kernel_rfl)) (fun _ _ _ h => h) (Or.inl ⟨by rfl, ?_⟩) ?_ ?_
             rotate_left
             ·intro w'
              go_simp
              with_reducible rfl
             rotate_left
             ·exact mP
             refine pure_ (i := 4) (N := some 21) (v := ?_) (a' := ?_) (bA 8 31) rfl rfl (any_of HT_.out (by kernel_rfl)) (fun _ _ _ h => h) (Or.inl ⟨by rfl, ?_⟩) ?_ ?_
             rotate_left
             ·intro w'
              go_simp
              with_reducible rfl
             rotate_left
             ·exact mP
             refine pure_ (i := 5) (N := some 22) (v := ?_) (a' := ?_) (bA 8 63) rfl rfl (any_of HT_.out (by kernel_rfl)) (fun _ _ _ h => h) (Or.inl ⟨by rfl, ?_⟩) ?_ ?_
             rotate_left
             ·intro w'
              go_simp
              with_reducible rfl
             rotate_left
             ·exact mP
             refine one_ (i := 6) (N := some 23) (bA 8 127) rfl rfl (one_of HT_.out (by kernel_rfl)) (by decide) (fun K hK => ?_)
             refine goes_ Tryz.func42 (by kernel_rfl) rfl #[.int .i64 x5_2] (by rfl) rfl rfl mS ?_
             with_reducible refine (foghornref12_sign.calls x5_2 t245 _ A8.out).mono ?_
             rintro e w' ⟨rfl, ⟨nd, rfl⟩⟩
             refine ⟨_, rfl, ?_⟩
             refine hK.out _ _ trivial (fun hHeld => ?_)
             clear hK K
             refine norm_ (a' := ?_) ?_ ?_
             rotate_left
             ·show Act.put _ (some 23) _ = _
              simp only [Act.put, List.setIfInBounds_toArray, List.set_cons_zero, List.set_cons_succ, i64_w, i32_w]
              rfl
             refine pure_ (i := 7) (N := some 24) (v := ?_) (a' := ?_) (bA 8 255) rfl rfl (any_of HT_.out (by kernel_rfl)) (fun _ _ _ h => h) (Or.inl ⟨by rfl, ?_⟩) ?_ ?_
             rotate_left
             ·intro w'
              go_simp
              with_reducible rfl
             rotate_left
             ·exact mP
             refine done_ (done_of HT_.out (by kernel_rfl)) ?_
             try go_wp2
             (try (rw [drewN_self w16]; generalize hq_ : World.drewN w16 _ = w16; have n0_ : Aside0 (w16.heap[gb244]? = some (.cells #[.int .i64 x245000_2, .string x245001_2, .string x245002_2] 32 (0, 0))) := ⟨by rw [← hq_]; exact (mK BK244.out)⟩; have n1_ : Aside0 (Below w.heap.size w w16) := ⟨by rw [← hq_]; exact (mD1 GE244.out)⟩; clear BK244 HB hq_; have BK244 := n0_; have HB := n1_; clear n0_ n1_))
             have n0_ := aA (blk_drew BK244.out)
             have n1_ := aA (below_drew1 HB.out)
             clear BK244
             clear HB
             have BK244 := n0_
             have HB := n1_
             clear n0_ n1_
             refine start_ (n := 11) (S := fun w' => True) (ds := []) (bA 11 0) (by kernel_rfl) rfl rfl trivial (fun hHeld => ?_); refine with_tabW foghornref12_Asked.tab8 foghornref12_Asked.bits8 (fun HT_ HW_ => ?_)
             generalize w16.drew = w17 at BK244 HB hHeld ⊢
             refine pure_ (i := 0) (N := some 25) (v := ?_) (a' := ?_) (bA 11 1) rfl rfl (any_of HT_.out (by kernel_rfl)) (fun _ _ _ h => h) (Or.inl ⟨by rfl, ?_⟩) ?_ ?_
             rotate_left
             ·intro w'
              go_simp
              with_reducible rfl
             rotate_left
             ·exact mP
             refine pure_ (i := 1) (N := some 26) (v := ?_) (a' := ?_) (bA 11 3) rfl rfl (any_of HT_.out (by kernel_rfl)) (fun _ _ _ h => h) (Or.inl ⟨by rfl, ?_⟩) ?_ ?_
             rotate_left
             ·intro w'
              go_simp
              with_reducible rfl
             rotate_left
             ·exact mP
             refine pure_ (i := 2) (N := some 27) (v := ?_) (a' := ?_) (bA 11 7) rfl rfl (any_of HT_.out (by kernel_rfl)) (fun _ _ _ h => h) (Or.inl ⟨by rfl, ?_⟩) ?_ ?_
             rotate_left
             ·intro w'
              go_simp
              with_reducible rfl
             rotate_left
             ·exact mP
             refine pure_ (i := 3) (N := some 28) (v := ?_) (a' := ?_) (bA 11 15) rfl rfl (any_of HT_.out (by kernel_rfl)) (fun _ _ _ h => h) (Or.inl ⟨by rfl, ?_⟩) ?_ ?_
             rotate_left
             ·intro w'
              go_simp
              with_reducible rfl
             rotate_left
             ·exact mP
             refine pure_ (i := 4) (N := some 29) (v := ?_) (a' := ?_) (bA 11 31) rfl rfl (any_of HT_.out (by kernel_rfl)) (fun _ _ _ h => h) (Or.inl ⟨by rfl, ?_⟩) ?_ ?_
             rotate_left
             ·intro w'
              go_simp
              with_reducible rfl
             rotate_left
             ·exact mP
             refine pure_ (i := 5) (N := some 30) (v := ?_) (a' := ?_) (bA 11 63) rfl rfl (any_of HT_.out (by kernel_rfl)) (fun _ _ _ h => h) (Or.inl ⟨by rfl, ?_⟩) ?_ ?_
             rotate_left
             ·intro w'
              go_simp
              with_reducible rfl
             rotate_left
             ·exact mP
             refine pure_ (i := 6) (N := some 31) (v := ?_) (a' := ?_) (bA 11 127) rfl rfl (any_of HT_.out (by kernel_rfl)) (fun _ _ _ h => h) (Or.inl ⟨by rfl, ?_⟩) ?_ ?_
             rotate_left
             ·intro w'
              go_simp
              with_reducible rfl
             rotate_left
             ·exact mP
             refine pure_ (i := 7) (N := some 32) (v := ?_) (a' := ?_) (bA 11 255) rfl rfl (any_of HT_.out (by kernel_rfl)) (fun _ _ _ h => h) (Or.inl ⟨by rfl, ?_⟩) ?_ ?_
             rotate_left
             ·intro w'
              go_simp
              with_reducible rfl
             rotate_left
             ·exact mP
             refine pure_ (i := 8) (N := some 33) (v := ?_) (a' := ?_) (bA 11 511) rfl rfl (any_of HT_.out (by kernel_rfl)) (fun _ _ _ h => h) (Or.inl ⟨by rfl, ?_⟩) ?_ ?_
             rotate_left
             ·intro w'
              go_simp
              with_reducible rfl
             rotate_left
             ·exact mP
             refine one_ (i := 9) (N := some 6) (bA 11 1023) rfl rfl (one_of HT_.out (by kernel_rfl)) (by decide) (fun K hK => ?_)
             refine box_step ?hg (N := 6) ?hd (cs := #[.int .i64 0, .string (⟨#[]⟩ : ByteArray), .string (⟨#[]⟩ : ByteArray)]) (t := 32) ?hr ?_; (case hd => rfl); (case hg => rfl); (case hr => first | (go_simp; done) | (go_simp; rfl))
             intro gb246 hg w18 hbox hb
             have n0_ := aA (bB BK244.out hb)
             have n1_ := aA (below_step (mD1 GE244.out) hb)
             have n2_ := aA (hbox)
             have n3_ := aA ((bZ hg (mD1 GE244.out)))
             have n4_ := aA ((bZ hg (mD1 GE244.out)))
             have n5_ := aA ((bL hg BK244.out))
             have n6_ := aA ((bG hg BK244.out))
             clear BK244
             clear HB
             have BK244 := n0_
             have HB := n1_
             have BK246 := n2_
             have GW246 := n3_
             have GE246 := n4_
             have NB244_246 := n5_
             have NB246_244 := n6_
             clear n0_ n1_ n2_ n3_ n4_ n5_ n6_
             clear hb hbox hg
             refine hK.out _ _ trivial (fun hHeld => ?_)
             clear hK K
             refine norm_ (a' := ?_) ?_ ?_
             rotate_left
             ·show Act.put _ (some 6) _ = _
              simp only [Act.put, List.setIfInBounds_toArray, List.set_cons_zero, List.set_cons_succ, i64_w, i32_w]
              rfl
             refine one_ (i := 10) (N := none) (bA 11 2047) rfl rfl (one_of HT_.out (by kernel_rfl)) (by decide) (fun K hK => ?_)
             have hs19 : w18.cell? ⟨gb246, 0, none⟩ = some (.int .i64 0) := (blk_cell BK246.out 0).trans rfl
             have hfs19 := blk_frozen BK246.out 0
             have hns19_0 := NB244_246.out
             have hms19_0 := NB246_244.out
             have hs20 : w18.cell? ⟨gb246, 1, none⟩ = some (.string (⟨#[]⟩ : ByteArray)) := (blk_cell BK246.out 1).trans rfl
             have hfs20 := blk_frozen BK246.out 1
             have hns20_0 := NB244_246.out
             have hms20_0 := NB246_244.out
             have hs21 : w18.cell? ⟨gb246, 2, none⟩ = some (.string (⟨#[]⟩ : ByteArray)) := (blk_cell BK246.out 2).trans rfl
             have hfs21 := blk_frozen BK246.out 2
             have hns21_0 := NB244_246.out
             have hms21_0 := NB246_244.out
             refine skip_ (w1 := ?_) (by rfl) rfl ?_ ?_
             rotate_left
             ·go_simp
              rfl
             refine hK.out _ _ trivial (fun hHeld => ?_)
             clear hK K
             refine done_ (done_of HT_.out (by kernel_rfl)) ?_
             try go_wp2
             have n0_ : Aside0 ((((w18.setCell ⟨gb246, 0, none⟩ (.int .i64 x5_2)).setCell ⟨gb246, 1, none⟩ (.string (a0.extract 0 (x4_1 : Int).toNat))).setCell ⟨gb246, 2, none⟩ (.string (a0.extract ((ji12) : Int).toNat a0.size))).heap[gb244]? = some (.cells #[.int .i64 x245000_2, .string x245001_2, .string x245002_2] 32 (0, 0))) := ⟨by (with_reducible repeat (first | refine blk_drewN ?_ _ | refine blk_drew ?_ | refine blk_alloc ?_ _)); refine blk_far ?_ NB244_246.out _; (with_reducible repeat (first | refine blk_drewN ?_ _ | refine blk_drew ?_ | refine blk_alloc ?_ _)); refine blk_far ?_ NB244_246.out _; (with_reducible repeat (first | refine blk_drewN ?_ _ | refine blk_drew ?_ | refine blk_alloc ?_ _)); refine blk_far ?_ NB244_246.out _; (with_reducible repeat (first | refine blk_drewN ?_ _ | refine blk_drew ?_ | refine blk_alloc ?_ _)); exact BK244.out⟩
             have n1_ : Aside0 ((((w18.setCell ⟨gb246, 0, none⟩ (.int .i64 x5_2)).setCell ⟨gb246, 1, none⟩ (.string (a0.extract 0 (x4_1 : Int).toNat))).setCell ⟨gb246, 2, none⟩ (.string (a0.extract ((ji12) : Int).toNat a0.size))).heap[gb246]? = some (.cells #[.int .i64 x5_2, .string (a0.extract 0 (x4_1 : Int).toNat), .string (a0.extract ((ji12) : Int).toNat a0.size)] 32 (0, 0))) := ⟨by (with_reducible repeat (first | refine blk_drewN ?_ _ | refine blk_drew ?_ | refine blk_alloc ?_ _)); refine blk_put (cs := #[.int .i64 x5_2, .string (a0.extract 0 (x4_1 : Int).toNat), .string (⟨#[]⟩ : ByteArray)]) ?_ 2 _ rfl; (with_reducible repeat (first | refine blk_drewN ?_ _ | refine blk_drew ?_ | refine blk_alloc ?_ _)); refine blk_put (cs := #[.int .i64 x5_2, .string (⟨#[]⟩ : ByteArray), .string (⟨#[]⟩ : ByteArray)]) ?_ 1 _ rfl; (with_reducible repeat (first | refine blk_drewN ?_ _ | refine blk_drew ?_ | refine blk_alloc ?_ _)); refine blk_put (cs := #[.int .i64 0, .string (⟨#[]⟩ : ByteArray), .string (⟨#[]⟩ : ByteArray)]) ?_ 0 _ rfl; (with_reducible repeat (first | refine blk_drewN ?_ _ | refine blk_drew ?_ | refine blk_alloc ?_ _)); exact BK246.out⟩
             have n2_ : Aside0 (Below w.heap.size w (((w18.setCell ⟨gb246, 0, none⟩ (.int .i64 x5_2)).setCell ⟨gb246, 1, none⟩ (.string (a0.extract 0 (x4_1 : Int).toNat))).setCell ⟨gb246, 2, none⟩ (.string (a0.extract ((ji12) : Int).toNat a0.size)))) := ⟨by repeat (first | (with_reducible first | exact HB.out | apply below_alloc | apply pw_below_drewN | apply below_drew1 | refine below_set ?_ GE244.out | refine below_set ?_ GE246.out) | exact HB.out)⟩
             (try clear BK244)
             (try clear BK246)
             (try clear HB)
             generalize (((w18.setCell ⟨gb246, 0, none⟩ (.int .i64 x5_2)).setCell ⟨gb246, 1, none⟩ (.string (a0.extract 0 (x4_1 : Int).toNat))).setCell ⟨gb246, 2, none⟩ (.string (a0.extract ((ji12) : Int).toNat a0.size))) = w22 at n0_ n1_ n2_ ⊢
             have BK244 := n0_
             have BK246 := n1_
             have HB := n2_
             clear n0_ n1_ n2_
             have n0_ := aA (blk_drew BK244.out)
             have n1_ := aA (blk_drew BK246.out)
             have n2_ := aA (below_drew1 HB.out)
             clear BK244
             clear BK246
             clear HB
             have BK244 := n0_
             have BK246 := n1_
             have HB := n2_
             clear n0_ n1_ n2_
             refine start_ (n := 5) (S := fun w' => w'.cell? ⟨gb246, 0, none⟩ = some (.int .i64 x5_2) ∧ w'.cell? ⟨gb246, 1, none⟩ = some (.string (a0.extract 0 (x4_1 : Int).toNat)) ∧ w'.cell? ⟨gb246, 2, none⟩ = some (.string (a0.extract ((ji12) : Int).toNat a0.size))) (ds := []) #[false, false, false, false, false] (by kernel_rfl) rfl rfl (bC3 BK246.out) (fun hHeld => ?_)
             generalize w22.drew = w23 at BK244 BK246 HB hHeld ⊢
             refine take_ (i := 0) (N := some 34) (v := ?_) (a' := ?_) #[true, false, false, false, false] rfl rfl (by kernel_rfl) (fun _ _ _ h => h) (Or.inl ⟨by rfl, ?_⟩) hHeld ?_ ?_
             rotate_left
             ·rintro w' ⟨s0, s1, s2⟩
              go_simp
              with_reducible rfl
             rotate_left
             ·exact mP
             refine take_ (i := 1) (N := some 35) (v := ?_) (a' := ?_) #[true, true, false, false, false] rfl rfl (by kernel_rfl) (fun _ _ _ h => h) (Or.inl ⟨by rfl, ?_⟩) hHeld ?_ ?_
             rotate_left
             ·rintro w' ⟨s0, s1, s2⟩
              go_simp
              with_reducible rfl
             rotate_left
             ·exact mP
             refine one_ (i := 2) (N := some 36) #[true, true, true, false, false] rfl rfl (by kernel_rfl) (by decide) (fun K hK => ?_)
             refine goes_ Tryz.func22 (by kernel_rfl) rfl #[.agg #[.int .i64 x5_2, .string (a0.extract 0 (x4_1 : Int).toNat), .string (a0.extract ((ji12) : Int).toNat a0.size)]] (by rfl) rfl rfl (by (try simp only [List.map_toArray, List.map_cons, List.map_nil]); first | done | (simp only [hji12]; rfl) | rfl | (simp only [List.length_drop, List.length_take]; rfl)) ?_
             with_reducible refine (foghornref10_Matcher.calls x5_2 (a0.extract 0 (x4_1 : Int).toNat) (a0.extract ((ji12) : Int).toNat a0.size) t247 _ A15.out).mono ?_
             rintro e w24 ⟨rfl, hb⟩
             refine ⟨_, rfl, ?_⟩
             have n0_ := aA (bB BK244.out hb)
             have n1_ := aA (bB BK246.out hb)
             have n2_ := aA (below_step (mD2 GE244.out GE246.out) hb)
             clear BK244
             clear BK246
             clear HB
             have BK244 := n0_
             have BK246 := n1_
             have HB := n2_
             clear n0_ n1_ n2_
             (try clear hb)
             (try clear hb2)
             (try clear hk)
             (try clear hi)
             refine hK.out _ _ (bC3 BK246.out) (fun hHeld => ?_)
             clear hK K
             refine norm_ (a' := ?_) ?_ ?_
             rotate_left
             ·show Act.put _ (some 36) _ = _
              simp only [Act.put, List.setIfInBounds_toArray, List.set_cons_zero, List.set_cons_succ, i64_w, i32_w]
              rfl
             refine one_ (i := 3) (N := none) #[true, true, true, true, false] rfl rfl (by kernel_rfl) (by decide) (fun K hK => ?_)
             have hs25 : w24.cell? ⟨gb244, 0, none⟩ = some (.int .i64 x245000_2) := (blk_cell BK244.out 0).trans rfl
             have hfs25 := blk_frozen BK244.out 0
             have hns25_1 := NB246_244.out
             have hms25_1 := NB244_246.out
             have hs26 : w24.cell? ⟨gb244, 1, none⟩ = some (.string x245001_2) := (blk_cell BK244.out 1).trans rfl
             have hfs26 := blk_frozen BK244.out 1
             have hns26_1 := NB246_244.out
             have hms26_1 := NB244_246.out
             have hs27 : w24.cell? ⟨gb244, 2, none⟩ = some (.string x245002_2) := (blk_cell BK244.out 2).trans rfl
             have hfs27 := blk_frozen BK244.out 2
             have hns27_1 := NB246_244.out
             have hms27_1 := NB244_246.out
             refine skip_ (w1 := ?_) (by rfl) rfl ?_ ?_
             rotate_left
             ·go_simp
              rfl
             refine hK.out _ _ ⟨((cell_far (p := ⟨gb244, _, none⟩) NB246_244.out _).trans (((cell_far (p := ⟨gb244, _, none⟩) NB246_244.out _).trans (((cell_far (p := ⟨gb244, _, none⟩) NB246_244.out _).trans (hHeld.1)))))), ((cell_far (p := ⟨gb244, _, none⟩) NB246_244.out _).trans (((cell_far (p := ⟨gb244, _, none⟩) NB246_244.out _).trans (((cell_far (p := ⟨gb244, _, none⟩) NB246_244.out _).trans (hHeld.2.1)))))), ((cell_far (p := ⟨gb244, _, none⟩) NB246_244.out _).trans (((cell_far (p := ⟨gb244, _, none⟩) NB246_244.out _).trans (((cell_far (p := ⟨gb244, _, none⟩) NB246_244.out _).trans (hHeld.2.2))))))⟩ (fun hHeld => ?_)
             clear hK K
             refine pure_ (i := 4) (N := some 3) (v := ?_) (a' := ?_) #[true, true, true, true, true] rfl rfl (by kernel_rfl) (fun _ _ _ h => h) (Or.inl ⟨by rfl, ?_⟩) ?_ ?_
             rotate_left
             ·intro w'
              go_simp
              with_reducible rfl
             rotate_left
             ·exact mP
             refine done_ (by kernel_rfl) ?_
             try go_wp2
             refine bodyPost_ret (results_ct rfl _ _ gb244 32 #[.int .i64 x5_2, .string (a0.extract 0 (x4_1 : Int).toNat), .string (a0.extract ((ji12) : Int).toNat a0.size)] (0, 0) _ rfl (by (with_reducible repeat (first | refine blk_drewN ?_ _ | refine blk_drew ?_ | refine blk_alloc ?_ _)); have h_ := BK244.out; exact pK 2 (pK 1 (pK 0 (h_)))) Tryz.underlying32 rfl (by kernel_rfl)) rfl ?_
             exact ⟨by first | rfl | (simp [errW_none, errW_some] <;> rfl) | (simp only [← hji12]; first | rfl | (simp [errW_none, errW_some] <;> rfl)) | (simp [*, errW_none, errW_some] <;> rfl), by repeat (first | (with_reducible first | exact HB.out | apply below_alloc | apply pw_below_drewN | apply below_drew1 | refine below_set ?_ GE244.out | refine below_set ?_ GE246.out) | exact HB.out)⟩
            ·rw [if_neg c13] at H
             exact absurd H (by simp)
           ·rw [if_neg c11] at H
            exact absurd H (by simp)
          ·rw [if_neg c9] at H
           have c9b0 : ((a0.extract (x4_1 : Int).toNat ((wrap64 (x4_1 + 1)) : Int).toNat).toList == t245.toList) = false := beq_eq_false_iff_ne.mpr c9
           have c9b1 : ((a0.extract (x4_1 : Int).toNat ((wrap64 (x4_1 + 1)) : Int).toNat).toList != t245.toList) = true := bne_iff_ne.mpr c9
           have H' := aA H
           clear H
           try go_wp2
           have n0_ := aA (blk_drew BK244.out)
           have n1_ := aA (below_drew1 HB.out)
           clear BK244
           clear HB
           have BK244 := n0_
           have HB := n1_
           clear n0_ n1_
           refine start_ (n := 8) (S := fun w' => True) (ds := []) (bA 8 0) (by kernel_rfl) rfl rfl trivial (fun hHeld => ?_); refine with_tabW foghornref12_Asked.tab7 foghornref12_Asked.bits7 (fun HT_ HW_ => ?_)
           generalize wr.drew = w28 at BK244 HB hHeld ⊢
           refine pure_ (i := 0) (N := some 17) (v := ?_) (a' := ?_) (bA 8 1) rfl rfl (any_of HT_.out (by kernel_rfl)) (fun _ _ _ h => h) (Or.inl ⟨by rfl, ?_⟩) ?_ ?_
           rotate_left
           ·intro w'
            go_simp
            with_reducible rfl
           rotate_left
           ·exact mP
           refine pure_ (i := 1) (N := some 18) (v := ?_) (a' := ?_) (bA 8 3) rfl rfl (any_of HT_.out (by kernel_rfl)) (fun _ _ _ h => h) (Or.inl ⟨by rfl, ?_⟩) ?_ ?_
           rotate_left
           ·intro w'
            go_simp
            with_reducible rfl
           rotate_left
           ·exact mP
           refine pure_ (i := 2) (N := some 19) (v := ?_) (a' := ?_) (bA 8 7) rfl rfl (any_of HT_.out (by kernel_rfl)) (fun _ _ _ h => h) (Or.inl ⟨by rfl, ?_⟩) ?_ ?_
           rotate_left
           ·intro w'
            go_simp
            with_reducible rfl
           rotate_left
           ·exact mP
           refine pure_ (i := 3) (N := some 20) (v := ?_) (a' := ?_) (bA 8 15) rfl rfl (any_of HT_.out (by kernel_rfl)) (fun _ _ _ h => h) (Or.inl ⟨by rfl, ?_⟩) ?_ ?_
           rotate_left
           ·intro w'
            go_simp
            with_reducible rfl
           rotate_left
           ·exact mP
           refine pure_ (i := 4) (N := some 21) (v := ?_) (a' := ?_) (bA 8 31) rfl rfl (any_of HT_.out (by kernel_rfl)) (fun _ _ _ h => h) (Or.inl ⟨by rfl, ?_⟩) ?_ ?_
           rotate_left
           ·intro w'
            go_simp
            with_reducible rfl
           rotate_left
           ·exact mP
           refine pure_ (i := 5) (N := some 22) (v := ?_) (a' := ?_) (bA 8 63) rfl rfl (any_of HT_.out (by kernel_rfl)) (fun _ _ _ h => h) (Or.inl ⟨by rfl, ?_⟩) ?_ ?_
           rotate_left
           ·intro w'
            go_simp
            with_reducible rfl
           rotate_left
           ·exact mP
           refine one_ (i := 6) (N := some 23) (bA 8 127) rfl rfl (one_of HT_.out (by kernel_rfl)) (by decide) (fun K hK => ?_)
           refine goes_ Tryz.func42 (by kernel_rfl) rfl #[.int .i64 x5_2] (by rfl) rfl rfl mS ?_
           with_reducible refine (foghornref12_sign.calls x5_2 t245 _ A8.out).mono ?_
           rintro e w' ⟨rfl, ⟨nd, rfl⟩⟩
           refine ⟨_, rfl, ?_⟩
           refine hK.out _ _ trivial (fun hHeld => ?_)
           clear hK K
           refine norm_ (a' := ?_) ?_ ?_
           rotate_left
           ·show Act.put _ (some 23) _ = _
            simp only [Act.put, List.setIfInBounds_toArray, List.set_cons_zero, List.set_cons_succ, i64_w, i32_w]
            rfl
           refine pure_ (i := 7) (N := some 24) (v := ?_) (a' := ?_) (bA 8 255) rfl rfl (any_of HT_.out (by kernel_rfl)) (fun _ _ _ h => h) (Or.inl ⟨by rfl, ?_⟩) ?_ ?_
           rotate_left
           ·intro w'
            go_simp
            with_reducible rfl
           rotate_left
           ·exact mP
           refine done_ (done_of HT_.out (by kernel_rfl)) ?_
           try go_wp2
           go_roundg k2
           case measure => have := HK1.out; have := HK2.out; omega
           case rel => exact ⟨(wrap64 (x5_2 + 1)), (x245000_2), (x245001_2), (x245002_2), (by first | rfl | (simp; done) | (simp [*]; done)), H', ⟨by have := HK1.out; have := HK2.out; omega⟩, ⟨by (with_reducible repeat (first | refine blk_drewN ?_ _ | refine blk_drew ?_ | refine blk_alloc ?_ _)); exact BK244.out⟩, ⟨by repeat (first | (with_reducible first | exact HB.out | apply below_alloc | apply pw_below_drewN | apply below_drew1 | refine below_set ?_ GE244.out) | exact HB.out)⟩⟩
         ·rw [if_neg c7] at H
          exact absurd H (by simp)
        ·rw [if_neg c6] at H
         exact absurd H (by simp)
       ·rw [if_neg c5] at H
        exact absurd H (by simp)
      ·rw [if_neg c4] at H
       have c4b0 : decide (x5_2 < 4) = false := decide_eq_false c4
       clear c4
       have H' := aA H
       clear H
       go_wp2
       go_roundg k2
       case measure => have := HK1.out; have := HK2.out; omega
       case rel => exact ⟨(wrap64 (x4_1 + 1)), (x245000_2), (x245001_2), (x245002_2), (by first | rfl | (simp; done) | (simp [*]; done)), H', ⟨by have := HK1.out; have := HK2.out; omega⟩, ⟨by (with_reducible repeat (first | refine blk_drewN ?_ _ | refine blk_drew ?_ | refine blk_alloc ?_ _)); exact BK244.out⟩, ⟨by repeat (first | (with_reducible first | exact HB.out | apply below_alloc | apply pw_below_drewN | apply below_drew1 | refine below_set ?_ GE244.out) | exact HB.out)⟩⟩
   ·rw [if_neg c3] at H
    have c3b0 : decide (x4_1 < (a0.size : Int)) = false := decide_eq_false c3
    clear c3
    simp only [Option.some.injEq, Prod.mk.injEq] at H
    obtain ⟨rfl, rfl, rfl, rfl⟩ := H
    obtain ⟨hcz29_0, hcz29_1, hcz29_2⟩ := bC3 BK244.out
    obtain ⟨hfz29_0, hfz29_1, hfz29_2⟩ := bF3 BK244.out
    go_wp2
    refine bodyPost_ret (results_ct rfl _ _ gb244 32 #[.int .i64 0, .string (⟨#[]⟩ : ByteArray), .string (⟨#[]⟩ : ByteArray)] (0, 0) _ rfl (by (with_reducible repeat (first | refine blk_drewN ?_ _ | refine blk_drew ?_ | refine blk_alloc ?_ _)); have h_ := BK244.out; exact pK 2 (pK 1 (pK 0 (h_)))) Tryz.underlying32 rfl (by kernel_rfl)) rfl ?_
    exact ⟨by first | rfl | (simp [errW_none, errW_some] <;> rfl) | (simp [*, errW_none, errW_some] <;> rfl), by repeat (first | (with_reducible first | exact HB.out | apply below_alloc | apply pw_below_drewN | apply below_drew1 | refine below_set ?_ GE244.out) | exact HB.out)⟩
end Go.Proofs.YtjfknmlchdifjaaGreatDoorQ.P
namespace Go.Proofs.YtjfknmlchdifjaaGreatDoorQ.P
open Go.RowKit Go.Proofs.YtjfknmlchdifjaaGreatDoorW.PrintWords Go.Proofs.YtjfknmlchdifjaaGreatDoorW.PrintLast Go.Proofs.YtjfknmlchdifjaaGreatDoorW.PrintMore
attribute [local go_sem] max2_int min2_int max_two min_two max_three min_three max_four min_four
def foghornref12_Digits.f : Nat → Int → Option (ByteArray)
 | 0, _ => none
 | k + 1, a0 => if a0 < 10 then (some (strOfNums (([(wrap64 (48 + a0)) % 256] : List Int)))) else ((foghornref12_Digits.f k (wrap64 (Int.tdiv a0 10))).bind fun t251 => ((foghornref12_Digits.f k (Int.tmod a0 10)).bind fun t252 => (if t251.size + t252.size ≤ 9223372036854775807 then (some (t251 ++ t252)) else (none))))
theorem foghornref12_Digits.mono_l : ∀ k, (∀ y0, LeO (foghornref12_Digits.f k y0) (foghornref12_Digits.f (k + 1) y0))
 | 0 => fun _ r h => by simp [foghornref12_Digits.f] at h
 | k + 1 => by
  have ih0 := foghornref12_Digits.mono_l k
  ·intro y0
   unfold foghornref12_Digits.f
   repeat' first
   | (with_reducible exact ih0 _)
   | (with_reducible exact LeO.refl _)
   | (with_reducible exact LeO.none _)
   | (with_reducible refine LeO.ite ?_ ?_)
   | (with_reducible refine LeO.bind ?_ (fun _ => ?_))
   | exact ih0 _
   | exact LeO.none _
   | refine LeO.ite ?_ ?_
   | refine LeO.bind ?_ (fun _ => ?_)
theorem foghornref12_Digits.mono : ∀ a0 k, LeO (foghornref12_Digits.f k a0) (foghornref12_Digits.f (k + 1) a0) := by
 intro a0 k
 have ih0 := foghornref12_Digits.mono_l k
 exact ih0 a0
set_option maxHeartbeats 8000000 in
set_option maxRecDepth 100000 in
theorem foghornref12_Digits.calls (k : Nat) : ∀ (a0 : Int) (r : ByteArray) (w : World) (h : foghornref12_Digits.f k a0 = some r),
  Calls Tryz.prog 53 #[.int .i64 a0] w fun e w' => e = .returned (.string r) ∧ Below w.heap.size w w' := by
 induction k using Nat.strongRecOn with
 | _ k ih =>
 intro a0 r w h
 cases k with
 | zero => exact absurd h (by simp [foghornref12_Digits.f])
 | succ k =>
 simp only [foghornref12_Digits.f] at h
 have HB := aA (Below.refl w.heap.size w)
 have H : (if a0 < 10 then (some (strOfNums (([(wrap64 (48 + a0)) % 256] : List Int)))) else ((foghornref12_Digits.f k (wrap64 (Int.tdiv a0 10))).bind fun t251 => ((foghornref12_Digits.f k (Int.tmod a0 10)).bind fun t252 => (if t251.size + t252.size ≤ 9223372036854775807 then (some (t251 ++ t252)) else (none))))) = some r := h
 clear h
 by_cases c2 : a0 < 10
 ·rw [if_pos c2] at H
  have c2b0 : decide (a0 < 10) = true := decide_eq_true c2
  clear c2
  obtain ⟨y248, hy248⟩ : ∃ y_ : List Int, y_ = (([(wrap64 (48 + a0)) % 256] : List Int)) := ⟨_, rfl⟩
  replace H : (some (strOfNums y248)) = some r := by first | (rw [hy248]; with_reducible exact H) | (have H2_ := (Option.bind_some _ _).symm.trans H; rw [hy248]; with_reducible exact H2_) | (have H2_ := (Option.bind_some _ _).symm.trans H; with_reducible exact H2_) | with_reducible exact H | (rw [hy248]; exact H) | exact H
  have Ny248 := aA hy248
  clear hy248
  obtain rfl := Option.some.inj H
  go_enter Tryz.func53, Tryz.ntmps53
  go_wp2_with (first | ((with_reducible refine gate_dst (N := 8) rfl ?_); refine Kd.R_lit (Kd.int .u8) _ 5 ?hg (N := 8) ?hd (xs := ([(wrap64 (48 + a0)) % 256] : List Int)) (inner := [.int .u8 ((wrap64 (48 + a0)) % 256)]) (ok := fun _ => True) (okp := fun _ => True) ?hr ?hp (fun _ hk => hk) trivial (Below.refl _ _) (Nat.le_refl _) (by simp) ?_; (case hd => rfl); (case hg => rfl); (case hr => first | (go_simp; done) | (go_simp; rfl)); (case hp => exact (Reps.one (show Kd.M (Kd.int .u8) _ _ _ ((wrap64 (48 + a0)) % 256) [.int .u8 ((wrap64 (48 + a0)) % 256)] from rfl) (Reps.none _ _))); intro v249 w3 ho4 hb hg_ hnew_; clear hg_ hnew_; (first | rw [← Ny248.out] at ho4 | (simp only [Int.reduceToNat] at ho4; rw [← Ny248.out] at ho4)); have n0_ := aA (Kd.R_lower ho4 (below_size mB)); have n1_ := aA (below_step mB hb); clear HB; have HO250 := n0_; have HB := n1_; clear n0_ n1_ hb ho4; have hcv5 := own_string (P := Tryz.prog) Tryz.underlying96 Tryz.underlying5 Tryz.underlying9 (Kd.own_of_R HO250.out)))
  go_ret
  exact ⟨by first | rfl | (simp [errW_none, errW_some] <;> rfl) | (simp [*, errW_none, errW_some] <;> rfl), by repeat (first | (with_reducible first | exact HB.out | apply below_alloc | apply pw_below_drewN | apply below_drew1) | exact HB.out)⟩
 ·rw [if_neg c2] at H
  have c2b0 : decide (a0 < 10) = false := decide_eq_false c2
  clear c2
  replace H := Option.bind_eq_some_iff.mp H
  obtain ⟨t251, A60, H⟩ := H
  have A6 := aA A60
  clear A60
  replace H := Option.bind_eq_some_iff.mp H
  obtain ⟨t252, A70, H⟩ := H
  have A7 := aA A70
  clear A70
  by_cases c8 : t251.size + t252.size ≤ 9223372036854775807
  ·rw [if_pos c8] at H
   have c8b0 := eq_true c8
   have c8b1 := decide_eq_true c8
   try have c8b2 : (9223372036854775807 < t251.size + t252.size) = False := eq_false (Nat.not_lt.2 c8)
   obtain rfl := Option.some.inj H
   go_enter Tryz.func53, Tryz.ntmps53
   go_wp2_with (first | ((with_reducible refine gate_callee (f := 53) rfl ?_); refine goesL_ (some 12) rfl rfl Tryz.func53 (by kernel_rfl) rfl #[.int .i64 (wrap64 (Int.tdiv a0 10))] rfl mS ?_; (with_reducible refine (ih k (by omega) (wrap64 (Int.tdiv a0 10)) t251 _ A6.out).mono ?_); rintro e w9 ⟨rfl, hb⟩; refine ⟨_, rfl, ?_⟩; have n0_ := aA (below_step mB hb); clear HB; have HB := n0_; clear n0_; (try clear hb); (try clear hb2); (try clear hk); (try clear hi)) | ((with_reducible refine gate_callee (f := 53) rfl ?_); refine goesL_ (some 15) rfl rfl Tryz.func53 (by kernel_rfl) rfl #[.int .i64 (Int.tmod a0 10)] rfl mS ?_; (with_reducible refine (ih k (by omega) (Int.tmod a0 10) t252 _ A7.out).mono ?_); rintro e w10 ⟨rfl, hb⟩; refine ⟨_, rfl, ?_⟩; have n0_ := aA (below_step mB hb); clear HB; have HB := n0_; clear n0_; (try clear hb); (try clear hb2); (try clear hk); (try clear hi)))
   go_ret
   exact ⟨by first | rfl | (simp [errW_none, errW_some] <;> rfl) | (simp [*, errW_none, errW_some] <;> rfl), by repeat (first | (with_reducible first | exact HB.out | apply below_alloc | apply pw_below_drewN | apply below_drew1) | exact HB.out)⟩
  ·rw [if_neg c8] at H
   exact absurd H (by simp)
end Go.Proofs.YtjfknmlchdifjaaGreatDoorQ.P
namespace Go.Proofs.YtjfknmlchdifjaaGreatDoorQ.P
open Go.RowKit Go.Proofs.YtjfknmlchdifjaaGreatDoorW.PrintWords Go.Proofs.YtjfknmlchdifjaaGreatDoorW.PrintLast Go.Proofs.YtjfknmlchdifjaaGreatDoorW.PrintMore
attribute [local go_sem] max2_int min2_int max_two min_two max_three min_three max_four min_four
def foghornref12_Number.l0 : Nat → ByteArray → Int → Int → Option (Int × Bool)
 | 0, _, _, _ => none
 | k + 1, x0, x4, x5 => if x5 < (x0.size : Int) then (if 0 ≤ x5 then (if (bt x0 x5) < 48 then (some (0, false)) else (if (bt x0 x5) > 57 then (some (0, false)) else (if x4 > 1099511627776 then (some (0, false)) else (foghornref12_Number.l0 k x0 (wrap64 ((wrap64 (10 * x4)) + (((bt x0 x5) - 48) % 256))) (wrap64 (x5 + 1)))))) else (none)) else (if x0.toList = ([] : List UInt8) then (some (x4, false)) else (if x4 ≤ 1099511627776 then ((foghornref12_Digits.f k x4).bind fun t253 => (some (x4, (t253.toList == x0.toList)))) else (some (x4, false))))
def foghornref12_Number.f (k : Nat) (a0 : ByteArray) : Option (Int × Bool) := foghornref12_Number.l0 k a0 0 0
theorem foghornref12_Number.mono_l : ∀ k, (∀ y0 y1 y2, LeO (foghornref12_Number.l0 k y0 y1 y2) (foghornref12_Number.l0 (k + 1) y0 y1 y2))
 | 0 => fun _ _ _ r h => by simp [foghornref12_Number.l0] at h
 | k + 1 => by
  have ih0 := foghornref12_Number.mono_l k
  ·intro y0 y1 y2
   unfold foghornref12_Number.l0
   repeat' first
   | (with_reducible exact ih0 _ _ _)
   | (with_reducible exact foghornref12_Digits.mono _ _)
   | (with_reducible exact LeO.refl _)
   | (with_reducible exact LeO.none _)
   | (with_reducible refine LeO.ite ?_ ?_)
   | (with_reducible refine LeO.bind ?_ (fun _ => ?_))
   | exact ih0 _ _ _
   | exact foghornref12_Digits.mono _ _
   | exact LeO.none _
   | refine LeO.ite ?_ ?_
   | refine LeO.bind ?_ (fun _ => ?_)
theorem foghornref12_Number.mono : ∀ a0 k, LeO (foghornref12_Number.f k a0) (foghornref12_Number.f (k + 1) a0) := by
 intro a0 k
 have ih0 := foghornref12_Number.mono_l k
 unfold foghornref12_Number.f
 repeat' first
   | (with_reducible exact ih0 _ _ _)
   | (with_reducible exact foghornref12_Digits.mono _ _)
   | (with_reducible exact LeO.refl _)
   | (with_reducible exact LeO.none _)
   | (with_reducible refine LeO.ite ?_ ?_)
   | (with_reducible refine LeO.bind ?_ (fun _ => ?_))
   | exact ih0 _ _ _
   | exact foghornref12_Digits.mono _ _
   | exact LeO.none _
   | refine LeO.ite ?_ ?_
   | refine LeO.bind ?_ (fun _ => ?_)
set_option maxHeartbeats 8000000 in
set_option maxRecDepth 100000 in
theorem foghornref12_Number.calls (k : Nat) (a0 : ByteArray) (r1 : Int) (r2 : Bool) (w : World) (h : foghornref12_Number.f k a0 = some (r1, r2)) :
  Calls Tryz.prog 79 #[.string a0] w fun e w' => e = .returned (.tuple #[.int .i64 r1, .bool r2]) ∧ Below w.heap.size w w' := by
 have HB := aA (Below.refl w.heap.size w)
 have H : (foghornref12_Number.l0 k a0 0 0) = some (r1, r2) := h
 clear h
 have H' := aA H
 clear H
 go_enter Tryz.func79, Tryz.ntmps79
 go_wp2
 go_loopg [4, 5] k (fun kq v4 v5 w' => ∃ (x4_1 : Int) (x5_1 : Int), v4 = .int .i64 x4_1 ∧ v5 = .int .i64 x5_1 ∧ Aside0 (foghornref12_Number.l0 kq a0 x4_1 x5_1 = some (r1, r2)) ∧ Aside0 (kq ≤ k) ∧ Aside0 (Below w.heap.size w w'))
 case atStart => exact ⟨(0), (0), (by first | rfl | (simp; done) | (simp [*]; done)), (by first | rfl | (simp; done) | (simp [*]; done)), H', ⟨Nat.le_refl _⟩, ⟨by repeat (first | (with_reducible first | exact HB.out | apply below_alloc | apply pw_below_drewN | apply below_drew1) | exact HB.out)⟩⟩
 case round =>
  clear H'
  obtain ⟨x4_1, x5_1, rfl, rfl, HA, HK1, HB⟩ := hrel
  cases gk with
  | zero => exact absurd HA.out (by simp [foghornref12_Number.l0])
  | succ k1 =>
   have H := HA.out
   clear HA
   simp only [foghornref12_Number.l0] at H
   by_cases c2 : x5_1 < (a0.size : Int)
   ·rw [if_pos c2] at H
    have c2b0 : decide (x5_1 < (a0.size : Int)) = true := decide_eq_true c2
    clear c2
    by_cases c3 : 0 ≤ x5_1
    ·rw [if_pos c3] at H
     have c3b0 : decide (0 ≤ x5_1) = true := decide_eq_true c3
     clear c3
     by_cases c5 : (bt a0 x5_1) < 48
     ·rw [if_pos c5] at H
      have c5b0 : decide ((bt a0 x5_1) < 48) = true := decide_eq_true c5
      clear c5
      simp only [Option.some.injEq, Prod.mk.injEq] at H
      obtain ⟨rfl, rfl⟩ := H
      have p4 : 0 ≤ (x5_1 : Int) := of_decide_eq_true (by first | (with_reducible assumption) | assumption)
      have q4 : x5_1 < (a0.size : Int) := of_decide_eq_true (by first | (with_reducible assumption) | assumption)
      have hx4 := bt_at a0 x5_1
      replace p4 := eq_true p4
      replace q4 := eq_true q4
      go_wp2
      go_ret2
      exact ⟨by first | rfl | (simp [errW_none, errW_some] <;> rfl) | (simp [*, errW_none, errW_some] <;> rfl), by repeat (first | (with_reducible first | exact HB.out | apply below_alloc | apply pw_below_drewN | apply below_drew1) | exact HB.out)⟩
     ·rw [if_neg c5] at H
      have c5b0 : decide ((bt a0 x5_1) < 48) = false := decide_eq_false c5
      clear c5
      by_cases c7 : (bt a0 x5_1) > 57
      ·rw [if_pos c7] at H
       have c7b0 : decide (57 < (bt a0 x5_1)) = true := decide_eq_true c7
       clear c7
       simp only [Option.some.injEq, Prod.mk.injEq] at H
       obtain ⟨rfl, rfl⟩ := H
       have p4 : 0 ≤ (x5_1 : Int) := of_decide_eq_true (by first | (with_reducible assumption) | assumption)
       have q4 : x5_1 < (a0.size : Int) := of_decide_eq_true (by first | (with_reducible assumption) | assumption)
       have hx4 := bt_at a0 x5_1
       replace p4 := eq_true p4
       replace q4 := eq_true q4
       have p6 : 0 ≤ (x5_1 : Int) := of_decide_eq_true (by first | (with_reducible assumption) | assumption)
       have q6 : x5_1 < (a0.size : Int) := of_decide_eq_true (by first | (with_reducible assumption) | assumption)
       have hx6 := bt_at a0 x5_1
       replace p6 := eq_true p6
       replace q6 := eq_true q6
       go_wp2
       go_ret2
       exact ⟨by first | rfl | (simp [errW_none, errW_some] <;> rfl) | (simp [*, errW_none, errW_some] <;> rfl), by repeat (first | (with_reducible first | exact HB.out | apply below_alloc | apply pw_below_drewN | apply below_drew1) | exact HB.out)⟩
      ·rw [if_neg c7] at H
       have c7b0 : decide (57 < (bt a0 x5_1)) = false := decide_eq_false c7
       clear c7
       by_cases c8 : x4_1 > 1099511627776
       ·rw [if_pos c8] at H
        have c8b0 : decide (1099511627776 < x4_1) = true := decide_eq_true c8
        clear c8
        simp only [Option.some.injEq, Prod.mk.injEq] at H
        obtain ⟨rfl, rfl⟩ := H
        have p4 : 0 ≤ (x5_1 : Int) := of_decide_eq_true (by first | (with_reducible assumption) | assumption)
        have q4 : x5_1 < (a0.size : Int) := of_decide_eq_true (by first | (with_reducible assumption) | assumption)
        have hx4 := bt_at a0 x5_1
        replace p4 := eq_true p4
        replace q4 := eq_true q4
        have p6 : 0 ≤ (x5_1 : Int) := of_decide_eq_true (by first | (with_reducible assumption) | assumption)
        have q6 : x5_1 < (a0.size : Int) := of_decide_eq_true (by first | (with_reducible assumption) | assumption)
        have hx6 := bt_at a0 x5_1
        replace p6 := eq_true p6
        replace q6 := eq_true q6
        go_wp2
        go_ret2
        exact ⟨by first | rfl | (simp [errW_none, errW_some] <;> rfl) | (simp [*, errW_none, errW_some] <;> rfl), by repeat (first | (with_reducible first | exact HB.out | apply below_alloc | apply pw_below_drewN | apply below_drew1) | exact HB.out)⟩
       ·rw [if_neg c8] at H
        have c8b0 : decide (1099511627776 < x4_1) = false := decide_eq_false c8
        clear c8
        have H' := aA H
        clear H
        have p4 : 0 ≤ (x5_1 : Int) := of_decide_eq_true (by first | (with_reducible assumption) | assumption)
        have q4 : x5_1 < (a0.size : Int) := of_decide_eq_true (by first | (with_reducible assumption) | assumption)
        have hx4 := bt_at a0 x5_1
        replace p4 := eq_true p4
        replace q4 := eq_true q4
        have p6 : 0 ≤ (x5_1 : Int) := of_decide_eq_true (by first | (with_reducible assumption) | assumption)
        have q6 : x5_1 < (a0.size : Int) := of_decide_eq_true (by first | (with_reducible assumption) | assumption)
        have hx6 := bt_at a0 x5_1
        replace p6 := eq_true p6
        replace q6 := eq_true q6
        have p9 : 0 ≤ (x5_1 : Int) := of_decide_eq_true (by first | (with_reducible assumption) | assumption)
        have q9 : x5_1 < (a0.size : Int) := of_decide_eq_true (by first | (with_reducible assumption) | assumption)
        have hx9 := bt_at a0 x5_1
        replace p9 := eq_true p9
        replace q9 := eq_true q9
        go_wp2
        go_roundg k1
        case measure => have := HK1.out; omega
        case rel => exact ⟨(wrap64 ((wrap64 (10 * x4_1)) + (((bt a0 x5_1) - 48) % 256))), (wrap64 (x5_1 + 1)), (by first | rfl | (simp; done) | (simp [*]; done)), (by first | rfl | (simp; done) | (simp [*]; done)), H', ⟨by have := HK1.out; omega⟩, ⟨by repeat (first | (with_reducible first | exact HB.out | apply below_alloc | apply pw_below_drewN | apply below_drew1) | exact HB.out)⟩⟩
    ·rw [if_neg c3] at H
     exact absurd H (by simp)
   ·rw [if_neg c2] at H
    have c2b0 : decide (x5_1 < (a0.size : Int)) = false := decide_eq_false c2
    clear c2
    by_cases c10 : a0.toList = ([] : List UInt8)
    ·rw [if_pos c10] at H
     have c10b0 : (a0.toList == ([] : List UInt8)) = true := beq_iff_eq.mpr c10
     have c10b1 : (a0.toList != ([] : List UInt8)) = false := bne_eq_false_iff_eq.mpr c10
     clear c10
     simp only [Option.some.injEq, Prod.mk.injEq] at H
     obtain ⟨rfl, rfl⟩ := H
     go_wp2
     go_ret2
     exact ⟨by first | rfl | (simp [errW_none, errW_some] <;> rfl) | (simp [*, errW_none, errW_some] <;> rfl), by repeat (first | (with_reducible first | exact HB.out | apply below_alloc | apply pw_below_drewN | apply below_drew1) | exact HB.out)⟩
    ·rw [if_neg c10] at H
     have c10b0 : (a0.toList == ([] : List UInt8)) = false := beq_eq_false_iff_ne.mpr c10
     have c10b1 : (a0.toList != ([] : List UInt8)) = true := bne_iff_ne.mpr c10
     by_cases c11 : x4_1 ≤ 1099511627776
     ·rw [if_pos c11] at H
      have c11b0 : decide (x4_1 ≤ 1099511627776) = true := decide_eq_true c11
      clear c11
      replace H := Option.bind_eq_some_iff.mp H
      obtain ⟨t253, A120, H⟩ := H
      replace H : (some (x4_1, (t253.toList == a0.toList))) = some (r1, r2) := H
      have A12 := aA A120
      clear A120
      simp only [Option.some.injEq, Prod.mk.injEq] at H
      obtain ⟨rfl, rfl⟩ := H
      go_wp2_with (first | (go_at_call 53; (with_reducible refine (foghornref12_Digits.calls k1 x4_1 t253 _ A12.out).mono ?_); rintro e w13 ⟨rfl, hb⟩; have n0_ := aA (below_step mB hb); clear HB; have HB := n0_; clear n0_; (try clear hb); (try clear hb2); (try clear hk); (try clear hi)))
      go_ret2
      exact ⟨by first | rfl | (simp [errW_none, errW_some] <;> rfl) | (simp [*, errW_none, errW_some] <;> rfl), by repeat (first | (with_reducible first | exact HB.out | apply below_alloc | apply pw_below_drewN | apply below_drew1) | exact HB.out)⟩
     ·rw [if_neg c11] at H
      have c11b0 : decide (x4_1 ≤ 1099511627776) = false := decide_eq_false c11
      clear c11
      simp only [Option.some.injEq, Prod.mk.injEq] at H
      obtain ⟨rfl, rfl⟩ := H
      go_wp2
      go_ret2
      exact ⟨by first | rfl | (simp [errW_none, errW_some] <;> rfl) | (simp [*, errW_none, errW_some] <;> rfl), by repeat (first | (with_reducible first | exact HB.out | apply below_alloc | apply pw_below_drewN | apply below_drew1) | exact HB.out)⟩
end Go.Proofs.YtjfknmlchdifjaaGreatDoorQ.P
