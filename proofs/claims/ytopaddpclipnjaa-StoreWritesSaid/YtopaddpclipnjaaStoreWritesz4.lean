/- Part 4 of a proof: contracts and plain laws of what the statement reaches. No condition. -/
import Derived.Test.YtopaddpclipnjaaStoreWritesz1
import Derived.Test.YtopaddpclipnjaaStoreWritesz2
import Derived.Test.YtopaddpclipnjaaStoreWritesz3
set_option linter.unusedVariables false
set_option linter.unusedSimpArgs false
namespace Go.Proofs.YtopaddpclipnjaaQ.P
open Go.RowKit Go.Proofs.YtopaddpclipnjaaW.PrintWords Go.Proofs.YtopaddpclipnjaaW.PrintLast Go.Proofs.YtopaddpclipnjaaW.PrintMore
attribute [local go_sem] max2_int min2_int max_two min_two max_three min_three max_four min_four
def store_New.j0 : Nat → Bool → List ByteArray → Option (List ByteArray × Int × Int × Int × Bool × Int)
 | 0, _, _ => none
 | k + 1, x19, x117000 => if x19 = true then (some (([] : List ByteArray), 0, 0, 0, false, 2)) else ((seal_Seal.f 1 0 (⟨#[]⟩ : ByteArray)).bind fun bt117 => ((sector_Write.f x117000 1 bt117.1).bind fun bt119 => (some (bt119.1, 1, 0, 1, false, 0))))
def store_New.f (k : Nat) (a0 : Int) : Option (List ByteArray × Int × Int × Int × Bool × Int) := (sector_New.f a0).bind fun bt112 => (if bt112.2 = 0 then (store_New.j0 k ((Int.tmod a0 2) != 0) bt112.1) else (store_New.j0 k true bt112.1))
theorem store_New.mono_l : ∀ k, (∀ y0 y1, LeO (store_New.j0 k y0 y1) (store_New.j0 (k + 1) y0 y1))
 | 0 => fun _ _ r h => by simp [store_New.j0] at h
 | k + 1 => by
  have ih0 := store_New.mono_l k
  ·intro y0 y1
   unfold store_New.j0
   repeat' first
   | (with_reducible exact ih0 _ _)
   | (with_reducible exact LeO.refl _)
   | (with_reducible exact LeO.none _)
   | (with_reducible refine LeO.ite ?_ ?_)
   | (with_reducible refine LeO.bind ?_ (fun _ => ?_))
   | exact ih0 _ _
   | exact LeO.none _
   | refine LeO.ite ?_ ?_
   | refine LeO.bind ?_ (fun _ => ?_)
theorem store_New.mono : ∀ a0 k, LeO (store_New.f k a0) (store_New.f (k + 1) a0) := by
 intro a0 k
 have ih0 := store_New.mono_l k
 unfold store_New.f
 repeat' first
   | (with_reducible exact ih0 _ _)
   | (with_reducible exact LeO.refl _)
   | (with_reducible exact LeO.none _)
   | (with_reducible refine LeO.ite ?_ ?_)
   | (with_reducible refine LeO.bind ?_ (fun _ => ?_))
   | exact ih0 _ _
   | exact LeO.none _
   | refine LeO.ite ?_ ?_
   | refine LeO.bind ?_ (fun _ => ?_)
set_option maxHeartbeats 8000000 in
set_option maxRecDepth 100000 in
theorem store_New.calls (k : Nat) (a0 : Int) (r1 : List ByteArray) (r2 : Int) (r3 : Int) (r4 : Int) (r5 : Bool) (r6 : Int) (w : World) (h : store_New.f k a0 = some (r1, r2, r3, r4, r5, r6)) :
  Calls Try.prog 11 #[.int .i64 a0] w fun e w' => ∃ v0_ : Value, e = .returned (.tuple #[.agg #[v0_, .int .i64 r2, .int .i64 r3, .int .i64 r4, .bool r5], .int .i64 r6]) ∧ Kd.V Kd.string 9 w' w.heap.size (fun k_ => (w.heap.size ≤ k_)) v0_ r1 ∧ Below w.heap.size w w' := by
 have hu26 := Try.underlying26
 have hu24 := Try.underlying24
 have HB := aA (Below.refl w.heap.size w)
 have H : ((sector_New.f a0).bind fun bt112 => (if bt112.2 = 0 then (store_New.j0 k ((Int.tmod a0 2) != 0) bt112.1) else (store_New.j0 k true bt112.1))) = some (r1, r2, r3, r4, r5, r6) := h
 clear h
 replace H := Option.bind_eq_some_iff.mp H
 obtain ⟨⟨t112, t115⟩, A20, H⟩ := H
 replace H : (if t115 = 0 then (store_New.j0 k ((Int.tmod a0 2) != 0) t112) else (store_New.j0 k true t112)) = some (r1, r2, r3, r4, r5, r6) := H
 have A2 := aA A20
 clear A20
 have HC3 := aA H
 clear H
 go_enter Try.func11, Try.ntmps11
 go_upto_region 2 with (first | ((with_reducible refine gate_dst (N := 2) rfl ?_); refine box_event ?hg (N := 2) ?hd (cs := #[.slice none 0 0, .int .i64 0, .int .i64 0, .int .i64 0, .bool false]) (t := 26) ?hr ?_; (case hd => rfl); (case hg => rfl); (case hr => first | (go_simp; done) | (go_simp; rfl)); intro gb111 hg w4 hbox hb; have n0_ := aA (below_step mB hb); have n1_ := aA (hbox); have n2_ := aA ((bZ hg mB)); have n3_ := aA ((bZ hg mB)); clear HB; have HB := n0_; have BK111 := n1_; have GW111 := n2_; have GE111 := n3_; clear n0_ n1_ n2_ n3_ hb hbox hg) | ((with_reducible refine gate_callee (f := 32) rfl ?_); refine goesL_ (some 10) rfl rfl Try.func32 (by kernel_rfl) rfl #[.int .i64 a0] rfl mS ?_; (with_reducible refine (sector_New.calls a0 t112 t115 _ A2.out).mono ?_); rintro e w5 ⟨v113, rfl, ho0, hb⟩; refine ⟨_, rfl, ?_⟩; have n0_ := aA (Kd.V_lower (Kd.V_mono (ok' := fun k_ => (w.heap.size ≤ k_) ∧ k_ ≠ gb111) ho0 (fun k_ hk_ => ⟨(Nat.le_trans (below_size (mD1 GE111.out)) hk_), (Kd.freshB (g := gb111) (o := .cells #[.slice none 0 0, .int .i64 0, .int .i64 0, .int .i64 0, .bool false] 26 (0, 0)) (mK BK111.out) k_ hk_)⟩)) (below_size (mD1 GE111.out))); have n1_ := aA (bB BK111.out hb); have n2_ := aA (below_step (mD1 GE111.out) hb); clear BK111 HB; have HO114 := n0_; have BK111 := n1_; have HB := n2_; clear n0_ n1_ n2_; (try clear hb); (try clear hb2); (try clear hk); (try clear hi); (try clear ho0)) | ((with_reducible refine gate_dst (N := 4) rfl ?_); refine box_event ?hg (N := 4) ?hd (cs := #[.slice none 0 0]) (t := 24) ?hr ?_; (case hd => rfl); (case hg => rfl); (case hr => first | (go_simp; done) | (go_simp; rfl)); intro gb116 hg w6 hbox hb; have n0_ := aA (Kd.V_below (Kd.V_elderB (by (with_reducible repeat (first | apply Kd.V_alloc | apply Kd.V_drewN | apply Kd.V_drew)); exact HO114.out) gb116 (Nat.le_of_eq hg.symm)) hb); have n1_ := aA (bB BK111.out hb); have n2_ := aA (below_step (mD1 GE111.out) hb); have n3_ := aA (hbox); have n4_ := aA ((bZ hg (mD1 GE111.out))); have n5_ := aA ((bZ hg (mD1 GE111.out))); have n6_ := aA ((bL hg BK111.out)); have n7_ := aA ((bG hg BK111.out)); clear HO114 BK111 HB; have HO114 := n0_; have BK111 := n1_; have HB := n2_; have BK116 := n3_; have GW116 := n4_; have GE116 := n5_; have NB111_116 := n6_; have NB116_111 := n7_; clear n0_ n1_ n2_ n3_ n4_ n5_ n6_ n7_ hb hbox hg; obtain ⟨Ao7, co7, eo7⟩ := Kd.V_slice HO114.out; subst eo7; have hnb8 := NB116_111.out; have hnc8 := NB111_116.out; have hcz9_0 : w6.cell? ⟨gb116, 0, none⟩ = some (.slice none 0 0) := (blk_cell BK116.out 0).trans rfl; have hfz9_0 := blk_frozen BK116.out 0))
 (try simp only [Act.put, List.setIfInBounds_toArray, List.set_cons_zero, List.set_cons_succ])
 go_cut [19] (fun v19 wc => ∃ (kq : Nat) (x19_2 : Bool), v19 = .bool x19_2 ∧ Aside0 (store_New.j0 kq x19_2 t112 = some (r1, r2, r3, r4, r5, r6)) ∧ Aside0 (kq ≤ k) ∧ Aside0 (Kd.V Kd.string 9 wc w.heap.size (fun k_ => (w.heap.size ≤ k_) ∧ k_ ≠ gb111 ∧ k_ ≠ gb116) (.slice Ao7 t112.length co7) t112) ∧ Aside0 (wc.heap[gb111]? = some (.cells #[(.slice none 0 0), .int .i64 0, .int .i64 0, .int .i64 0, .bool false] 26 (0, 0))) ∧ Aside0 (wc.heap[gb116]? = some (.cells #[(.slice Ao7 t112.length co7)] 24 (0, 0))) ∧ Aside0 (Below w.heap.size w wc))
 case first =>
  have H := HC3.out
  clear HC3
  by_cases c10 : t115 = 0
  ·rw [if_pos c10] at H
   have c10b0 : (t115 == 0) = true := beq_iff_eq.mpr c10
   have c10b1 : (t115 != 0) = false := bne_eq_false_iff_eq.mpr c10
   clear c10
   (first | rw [c10b0] | (simp only [i64_w, i32_w]; rw [c10b0]) | skip)
   have H' := aA H
   clear H
   go_wp2
   go_meet
   case rel => exact ⟨_, (((Int.tmod a0 2) != 0)), (by first | rfl | (simp; done) | (simp [*]; done)), H', ⟨by first | omega | exact Nat.le_refl _⟩, ⟨by (with_reducible repeat (first | apply Kd.V_alloc | apply Kd.V_drewN | apply Kd.V_drew)); exact Kd.V_mono (Kd.V_far (p := ⟨gb116, 0, none⟩) (Kd.V_mono HO114.out (fun k_ hk => (⟨hk, hk.2⟩ : _ ∧ k_ ≠ gb116))) (fun _ hk => hk.2) (.slice Ao7 t112.length co7)) (fun _ hk => ⟨hk.1.1.1, ⟨hk.1.1.2, hk.1.2⟩⟩)⟩, ⟨by (with_reducible repeat (first | refine blk_drewN ?_ _ | refine blk_drew ?_ | refine blk_alloc ?_ _)); refine blk_far ?_ NB111_116.out _; (with_reducible repeat (first | refine blk_drewN ?_ _ | refine blk_drew ?_ | refine blk_alloc ?_ _)); exact BK111.out⟩, ⟨by (with_reducible repeat (first | refine blk_drewN ?_ _ | refine blk_drew ?_ | refine blk_alloc ?_ _)); refine blk_put (cs := #[.slice none 0 0]) ?_ 0 _ rfl; (with_reducible repeat (first | refine blk_drewN ?_ _ | refine blk_drew ?_ | refine blk_alloc ?_ _)); exact BK116.out⟩, ⟨by repeat (first | (with_reducible first | exact HB.out | apply below_alloc | apply pw_below_drewN | apply below_drew1 | refine below_set ?_ GE111.out | refine below_set ?_ GE116.out) | exact HB.out)⟩⟩
  ·rw [if_neg c10] at H
   have c10b0 : (t115 == 0) = false := beq_eq_false_iff_ne.mpr c10
   have c10b1 : (t115 != 0) = true := bne_iff_ne.mpr c10
   (first | rw [c10b0] | (simp only [i64_w, i32_w]; rw [c10b0]) | skip)
   have H' := aA H
   clear H
   go_wp2
   go_meet
   case rel => exact ⟨_, (true), (by first | rfl | (simp; done) | (simp [*]; done)), H', ⟨by first | omega | exact Nat.le_refl _⟩, ⟨by (with_reducible repeat (first | apply Kd.V_alloc | apply Kd.V_drewN | apply Kd.V_drew)); exact Kd.V_mono (Kd.V_far (p := ⟨gb116, 0, none⟩) (Kd.V_mono HO114.out (fun k_ hk => (⟨hk, hk.2⟩ : _ ∧ k_ ≠ gb116))) (fun _ hk => hk.2) (.slice Ao7 t112.length co7)) (fun _ hk => ⟨hk.1.1.1, ⟨hk.1.1.2, hk.1.2⟩⟩)⟩, ⟨by (with_reducible repeat (first | refine blk_drewN ?_ _ | refine blk_drew ?_ | refine blk_alloc ?_ _)); refine blk_far ?_ NB111_116.out _; (with_reducible repeat (first | refine blk_drewN ?_ _ | refine blk_drew ?_ | refine blk_alloc ?_ _)); exact BK111.out⟩, ⟨by (with_reducible repeat (first | refine blk_drewN ?_ _ | refine blk_drew ?_ | refine blk_alloc ?_ _)); refine blk_put (cs := #[.slice none 0 0]) ?_ 0 _ rfl; (with_reducible repeat (first | refine blk_drewN ?_ _ | refine blk_drew ?_ | refine blk_alloc ?_ _)); exact BK116.out⟩, ⟨by repeat (first | (with_reducible first | exact HB.out | apply below_alloc | apply pw_below_drewN | apply below_drew1 | refine below_set ?_ GE111.out | refine below_set ?_ GE116.out) | exact HB.out)⟩⟩
 case rest =>
  clear HC3
  try clear c1
  try clear p2
  try clear c3
  try clear c8
  try clear c10
  try clear c10b0
  try clear c10b1
  try clear hcz9_0
  try clear hfz9_0
  obtain ⟨kq, x19_2, rfl, HA, HJ2, HO_117000, BK111, BK116, HB⟩ := hcut
  cases kq with
  | zero => exact absurd HA.out (by simp [store_New.j0])
  | succ kj2 =>
   have H := HA.out
   clear HA
   simp only [store_New.j0] at H
   by_cases c11 : x19_2 = true
   ·subst c11
    have H1 : (some (([] : List ByteArray), 0, 0, 0, false, 2)) = some (r1, r2, r3, r4, r5, r6) := by rw [if_pos rfl] at H; exact H
    clear H
    have H := H1
    clear H1
    simp only [Option.some.injEq, Prod.mk.injEq] at H
    obtain ⟨rfl, rfl, rfl, rfl, rfl, rfl⟩ := H
    have hnb12 := NB111_116.out
    have hnc12 := NB116_111.out
    obtain ⟨hcz13_0, hcz13_1, hcz13_2, hcz13_3, hcz13_4⟩ := bC5 BK111.out
    obtain ⟨hfz13_0, hfz13_1, hfz13_2, hfz13_3, hfz13_4⟩ := bF5 BK111.out
    go_wp2
    refine bodyPost_ret (results_ct rfl _ _ gb111 26 #[.slice none 0 0, .int .i64 0, .int .i64 0, .int .i64 0, .bool false] (0, 0) _ rfl (by (with_reducible repeat (first | refine blk_drewN ?_ _ | refine blk_drew ?_ | refine blk_alloc ?_ _)); have h_ := BK111.out; exact pK 4 (pK 3 (pK 2 (pK 1 (pK 0 (h_)))))) Try.underlying26 rfl (by kernel_rfl)) rfl ?_
    exact ⟨_, by first | rfl | (simp [errW_none, errW_some] <;> rfl) | (simp [*, errW_none, errW_some] <;> rfl), Kd.V_nil _ _ _ _ _, by repeat (first | (with_reducible first | exact HB.out | apply below_alloc | apply pw_below_drewN | apply below_drew1 | refine below_set ?_ GE111.out | refine below_set ?_ GE116.out) | exact HB.out)⟩
   ·replace c11 := Bool.eq_false_iff.mpr c11
    subst c11
    have H1 : ((seal_Seal.f 1 0 (⟨#[]⟩ : ByteArray)).bind fun bt117 => ((sector_Write.f t112 1 bt117.1).bind fun bt119 => (some (bt119.1, 1, 0, 1, false, 0)))) = some (r1, r2, r3, r4, r5, r6) := by rw [if_neg (show ¬ (false = true) by decide)] at H; exact H
    clear H
    have H := H1
    clear H1
    replace H := Option.bind_eq_some_iff.mp H
    obtain ⟨⟨t117, t118⟩, A140, H⟩ := H
    replace H : ((sector_Write.f t112 1 t117).bind fun bt119 => (some (bt119.1, 1, 0, 1, false, 0))) = some (r1, r2, r3, r4, r5, r6) := H
    have A14 := aA A140
    clear A140
    replace H := Option.bind_eq_some_iff.mp H
    obtain ⟨⟨t119, t122⟩, A150, H⟩ := H
    replace H : (some (t119, 1, 0, 1, false, 0)) = some (r1, r2, r3, r4, r5, r6) := H
    have A15 := aA A150
    clear A150
    simp only [Option.some.injEq, Prod.mk.injEq] at H
    obtain ⟨rfl, rfl, rfl, rfl, rfl, rfl⟩ := H
    go_wp2_with (first | ((with_reducible refine gate_callee (f := 33) rfl ?_); refine goesL_ (some 22) rfl rfl Try.func33 (by kernel_rfl) rfl #[.int .i64 1, .int .i64 0, .string (⟨#[]⟩ : ByteArray)] rfl mS ?_; (with_reducible refine (seal_Seal.calls 1 0 (⟨#[]⟩ : ByteArray) t117 t118 _ A14.out).mono ?_); rintro e w16 ⟨rfl, hb⟩; refine ⟨_, rfl, ?_⟩; have n0_ := aA (Kd.V_below (by (with_reducible repeat (first | apply Kd.V_alloc | apply Kd.V_drewN | apply Kd.V_drew)); exact HO_117000.out) hb); have n1_ := aA (bB BK111.out hb); have n2_ := aA (bB BK116.out hb); have n3_ := aA (below_step (mD2 GE111.out GE116.out) hb); clear HO_117000 BK111 BK116 HB; have HO_117000 := n0_; have BK111 := n1_; have BK116 := n2_; have HB := n3_; clear n0_ n1_ n2_ n3_; (try clear hb); (try clear hb2); (try clear hk); (try clear hi); have hnb17 := NB116_111.out; have hnc17 := NB111_116.out; have hcz18_0 : w16.cell? ⟨gb116, 0, none⟩ = some (.slice Ao7 t112.length co7) := (blk_cell BK116.out 0).trans rfl; have hfz18_0 := blk_frozen BK116.out 0) | ((with_reducible refine gate_callee (f := 34) rfl ?_); refine goesL_ (some 28) rfl rfl Try.func34 (by kernel_rfl) rfl #[.agg #[.slice Ao7 t112.length co7], .int .i64 1, .string t117] rfl mS ?_; (with_reducible refine (sector_Write.calls _ _ t112 1 t117 t119 t122 _ ?side1 ?side2 A15.out).mono ?_); (case side1 => exact mC ((Kd.V_reads' HO_117000.out).2.2)); (case side2 => exact (Kd.V_reads' HO_117000.out).2.1); rintro e w19 ⟨v120, rfl, ho0, hb⟩; refine ⟨_, rfl, ?_⟩; have n0_ := aA (Kd.V_below (by (with_reducible repeat (first | apply Kd.V_alloc | apply Kd.V_drewN | apply Kd.V_drew)); exact HO_117000.out) hb); have n1_ := aA (Kd.V_lower (Kd.V_mono (ok' := fun k_ => (w.heap.size ≤ k_) ∧ k_ ≠ gb111 ∧ k_ ≠ gb116) ho0 (fun k_ hk_ => ⟨(Nat.le_trans (below_size (mD2 GE111.out GE116.out)) hk_), (Kd.freshB (g := gb111) (o := .cells #[.slice none 0 0, .int .i64 0, .int .i64 0, .int .i64 0, .bool false] 26 (0, 0)) (mK BK111.out) k_ hk_), (Kd.freshB (g := gb116) (o := .cells #[.slice Ao7 t112.length co7] 24 (0, 0)) (mK BK116.out) k_ hk_)⟩)) (below_size (mD2 GE111.out GE116.out))); have n2_ := aA (bB BK111.out hb); have n3_ := aA (bB BK116.out hb); have n4_ := aA (below_step (mD2 GE111.out GE116.out) hb); clear HO_117000 BK111 BK116 HB; have HO_117000 := n0_; have HO121 := n1_; have BK111 := n2_; have BK116 := n3_; have HB := n4_; clear n0_ n1_ n2_ n3_ n4_; (try clear hb); (try clear hb2); (try clear hk); (try clear hi); (try clear ho0); obtain ⟨Ao20, co20, eo20⟩ := Kd.V_slice HO121.out; subst eo20; have hcz21_0 : w19.cell? ⟨gb116, 0, none⟩ = some (.slice Ao7 t112.length co7) := (blk_cell BK116.out 0).trans rfl; have hfz21_0 := blk_frozen BK116.out 0; obtain ⟨hcz22_0, hcz22_1, hcz22_2, hcz22_3, hcz22_4⟩ := bC5 BK111.out; obtain ⟨hfz22_0, hfz22_1, hfz22_2, hfz22_3, hfz22_4⟩ := bF5 BK111.out))
    refine bodyPost_ret (results_ct rfl _ _ gb111 26 #[.slice Ao20 t119.length co20, .int .i64 1, .int .i64 0, .int .i64 1, .bool false] (0, 0) _ rfl (by (with_reducible repeat (first | refine blk_drewN ?_ _ | refine blk_drew ?_ | refine blk_alloc ?_ _)); refine blk_put (cs := #[.slice Ao20 t119.length co20, .int .i64 1, .int .i64 0, .int .i64 1, .bool false]) ?_ 4 _ rfl; (with_reducible repeat (first | refine blk_drewN ?_ _ | refine blk_drew ?_ | refine blk_alloc ?_ _)); refine blk_put (cs := #[.slice Ao20 t119.length co20, .int .i64 1, .int .i64 0, .int .i64 0, .bool false]) ?_ 3 _ rfl; (with_reducible repeat (first | refine blk_drewN ?_ _ | refine blk_drew ?_ | refine blk_alloc ?_ _)); refine blk_put (cs := #[.slice Ao20 t119.length co20, .int .i64 1, .int .i64 0, .int .i64 0, .bool false]) ?_ 2 _ rfl; (with_reducible repeat (first | refine blk_drewN ?_ _ | refine blk_drew ?_ | refine blk_alloc ?_ _)); refine blk_put (cs := #[.slice Ao20 t119.length co20, .int .i64 0, .int .i64 0, .int .i64 0, .bool false]) ?_ 1 _ rfl; (with_reducible repeat (first | refine blk_drewN ?_ _ | refine blk_drew ?_ | refine blk_alloc ?_ _)); refine blk_put (cs := #[.slice none 0 0, .int .i64 0, .int .i64 0, .int .i64 0, .bool false]) ?_ 0 _ rfl; (with_reducible repeat (first | refine blk_drewN ?_ _ | refine blk_drew ?_ | refine blk_alloc ?_ _)); refine blk_far ?_ NB111_116.out _; (with_reducible repeat (first | refine blk_drewN ?_ _ | refine blk_drew ?_ | refine blk_alloc ?_ _)); exact BK111.out) Try.underlying26 rfl (by kernel_rfl)) rfl ?_
    exact ⟨_, by first | rfl | (simp [errW_none, errW_some] <;> rfl) | (simp [*, errW_none, errW_some] <;> rfl), by (with_reducible repeat (first | apply Kd.V_alloc | apply Kd.V_drewN | apply Kd.V_drew)); exact Kd.V_mono (Kd.V_far (p := ⟨gb111, 4, none⟩) (Kd.V_far (p := ⟨gb111, 3, none⟩) (Kd.V_far (p := ⟨gb111, 2, none⟩) (Kd.V_far (p := ⟨gb111, 1, none⟩) (Kd.V_far (p := ⟨gb111, 0, none⟩) (Kd.V_far (p := ⟨gb116, 0, none⟩) (Kd.V_mono (Kd.V_mono HO121.out (fun k_ hk => (⟨hk, hk.2.2⟩ : _ ∧ k_ ≠ gb116))) (fun k_ hk => (⟨hk, hk.1.2.1⟩ : _ ∧ k_ ≠ gb111))) (fun _ hk => hk.1.2) (.slice Ao20 t119.length co20)) (fun _ hk => hk.2) (.slice Ao20 t119.length co20)) (fun _ hk => hk.2) (.int .i64 1)) (fun _ hk => hk.2) (.int .i64 0)) (fun _ hk => hk.2) (.int .i64 1)) (fun _ hk => hk.2) (.bool false)) (fun _ hk => hk.1.1.1), by repeat (first | (with_reducible first | exact HB.out | apply below_alloc | apply pw_below_drewN | apply below_drew1 | refine below_set ?_ GE111.out | refine below_set ?_ GE116.out) | exact HB.out)⟩
end Go.Proofs.YtopaddpclipnjaaQ.P
namespace Go.Proofs.YtopaddpclipnjaaQ.P
open Go.RowKit Go.Proofs.YtopaddpclipnjaaW.PrintWords Go.Proofs.Ytopaddpclipnjaa
def stoOut (r : Sto × Int) : Option (List ByteArray × Int × Int × Int × Bool × Int) := some (r.1.xs, r.1.gen, r.1.used, r.1.top, r.1.down, r.2)
theorem sto_res {w : World} {A0_0 : Option Addr} {c0_0 : Nat} {l0_0 : List ByteArray} {P0_0_ : Nat → Prop} {s : Sto} {k : Int} {e : Ending} {w' : World} (hs0_0 : Kd.V Kd.string 9 w w.heap.size (fun k_ => P0_0_ k_) (.slice A0_0 l0_0.length c0_0) l0_0) (hl : (s.val (.slice A0_0 l0_0.length c0_0)) = s.val (.slice A0_0 l0_0.length c0_0)) {r1 : List ByteArray} {r2 r3 r4 : Int} {r5 : Bool} {r6 : Int} (h : stoOut (s, k) = some (r1, r2, r3, r4, r5, r6))
    (hsame : ∀ v', v' = .slice A0_0 l0_0.length c0_0 → SlAt w' v' 1 s.xs.length (strs s.xs) → s.xs = l0_0) (hr : StoRes s k (.slice A0_0 l0_0.length c0_0) w e w') :
    ∃ v0_ : Value, e = .returned (.tuple #[.agg #[v0_, .int .i64 r2, .int .i64 r3, .int .i64 r4, .bool r5], .int .i64 r6]) ∧ Kd.V Kd.string 9 w' w.heap.size (fun k_ => (P0_0_ k_ ∨ w.heap.size ≤ k_)) v0_ r1 ∧ Below w.heap.size w w' := by
  unfold stoOut at h
  simp only [Option.some.injEq, Prod.mk.injEq] at h
  obtain ⟨rfl, rfl, rfl, rfl, rfl, rfl⟩ := h
  obtain ⟨v', rfl, hv, hs, hb⟩ := hr
  refine ⟨v', rfl, ?_, hb⟩
  rcases hv with rfl | hv
  · rw [hsame _ rfl hs]
    exact Kd.V_mono (Kd.V_below hs0_0 hb) (fun _ h => .inl h)
  · exact Kd.V_mono (v_of_fresh hs hv) (fun _ h => .inr h)
theorem slat_v {w : World} {A0_0 : Option Addr} {c0_0 : Nat} {l0_0 : List ByteArray} {P0_0_ : Nat → Prop} (hs0_0 : Kd.V Kd.string 9 w w.heap.size (fun k_ => P0_0_ k_) (.slice A0_0 l0_0.length c0_0) l0_0) : SlAt w (.slice A0_0 l0_0.length c0_0) 1 l0_0.length (strs l0_0) := by
  obtain ⟨_, h2, h3⟩ := Kd.V_reads' hs0_0
  exact strs_c h3 h2
theorem slat_same {W : World} {A : Option Addr} {n c : Nat} {xs ys : List ByteArray} (h : SlAt W (.slice A n c) 1 xs.length (strs xs)) (k : SlAt W (.slice A n c) 1 ys.length (strs ys)) : xs = ys := by
  obtain ⟨_, _, _, e1, _, _⟩ := id h
  obtain ⟨_, _, _, e2, _, _⟩ := id k
  injection e1 with _ e1 _
  injection e2 with _ e2 _
  have hl : xs.length = ys.length := e1.symm.trans e2
  rcases Nat.eq_zero_or_pos xs.length with hz | hz
  · exact (List.eq_nil_of_length_eq_zero hz).trans (List.eq_nil_of_length_eq_zero (hl ▸ hz)).symm
  · subst e1
    obtain ⟨b, o, rfl, _, h1⟩ := h.at hz
    rw [hl] at k
    obtain ⟨b', o', e, _, h2⟩ := k.at (by omega)
    injection e with e
    injection e with e3 e4
    subst e3 e4
    apply List.ext_getElem hl
    intro i hi hi'
    have a1 := h1 i _ (strs_get _ _ hi)
    have a2 := h2 i _ (strs_get _ _ hi')
    rw [a1] at a2
    simpa using a2
def store_Append.f (l0_0 : List ByteArray) (a0_1 : Int) (a0_2 : Int) (a0_3 : Int) (a0_4 : Bool) (a1 : ByteArray) (a2_0 : Int) (a2_1 : Int) : Option (List ByteArray × Int × Int × Int × Bool × Int) := stoOut (appendS ⟨l0_0, a0_1, a0_2, a0_3, a0_4⟩ a1 ⟨a2_0, a2_1⟩)
theorem store_Append.calls (P0_0_ : Nat → Prop) (A0_0 : Option Addr) (c0_0 : Nat) (l0_0 : List ByteArray) (a0_1 : Int) (a0_2 : Int) (a0_3 : Int) (a0_4 : Bool) (a1 : ByteArray) (a2_0 : Int) (a2_1 : Int) (r1 : List ByteArray) (r2 : Int) (r3 : Int) (r4 : Int) (r5 : Bool) (r6 : Int) (w : World) (hs0_0 : Kd.V Kd.string 9 w w.heap.size (fun k_ => P0_0_ k_) (.slice A0_0 l0_0.length c0_0) l0_0) (h : store_Append.f l0_0 a0_1 a0_2 a0_3 a0_4 a1 a2_0 a2_1 = some (r1, r2, r3, r4, r5, r6)) :
    Calls Try.prog 21 #[.agg #[.slice A0_0 l0_0.length c0_0, .int .i64 a0_1, .int .i64 a0_2, .int .i64 a0_3, .bool a0_4], .string a1, .agg #[.int .i64 a2_0, .int .i64 a2_1]] w fun e w' => ∃ v0_ : Value, e = .returned (.tuple #[.agg #[v0_, .int .i64 r2, .int .i64 r3, .int .i64 r4, .bool r5], .int .i64 r6]) ∧ Kd.V Kd.string 9 w' w.heap.size (fun k_ => (P0_0_ k_ ∨ w.heap.size ≤ k_)) v0_ r1 ∧ Below w.heap.size w w' := by
  have hS := slat_v hs0_0
  unfold store_Append.f at h
  refine (append_any ⟨l0_0, a0_1, a0_2, a0_3, a0_4⟩ _ a1 ⟨a2_0, a2_1⟩ w hS).mono fun e w' hr => sto_res hs0_0 rfl h (fun v' hv hs => ?_) hr
  subst hv
  obtain ⟨_, _, _, _, hb⟩ := hr
  exact slat_same hs (hS.stay hb)
theorem flts_c {w : World} {A : Option Addr} {c : Nat} {xs : List (S45)} (h : Kd.C k45 w A xs.length xs) (hc : xs.length ≤ c) : SlAt w (.slice A xs.length c) 2 (xs.map fun x => (⟨x.f0, x.f1⟩ : Flt)).length (fltsC (xs.map fun x => (⟨x.f0, x.f1⟩ : Flt))) := by
  have := slat_of_C (d := k45) (f := fun x => (⟨x.f0, x.f1⟩ : Flt)) (en := fltC) (fun h => k45_open h) (fun _ => rfl) (by decide) h hc
  rw [List.length_map]
  exact this
def store_Turn.f (l0_0 : List ByteArray) (a0_1 : Int) (a0_2 : Int) (a0_3 : Int) (a0_4 : Bool) (l1 : List ByteArray) (l2 : List (S45)) : Option (List ByteArray × Int × Int × Int × Bool × Int) := stoOut (turnS ⟨l0_0, a0_1, a0_2, a0_3, a0_4⟩ l1 (l2.map fun x => ⟨x.f0, x.f1⟩))
theorem store_Turn.calls (P0_0_ : Nat → Prop) (A0_0 : Option Addr) (c0_0 : Nat) (l0_0 : List ByteArray) (a0_1 : Int) (a0_2 : Int) (a0_3 : Int) (a0_4 : Bool) (A1 : Option Addr) (c1 : Nat) (l1 : List ByteArray) (A2 : Option Addr) (c2 : Nat) (l2 : List (S45)) (r1 : List ByteArray) (r2 : Int) (r3 : Int) (r4 : Int) (r5 : Bool) (r6 : Int) (w : World) (hs0_0 : Kd.V Kd.string 9 w w.heap.size (fun k_ => P0_0_ k_) (.slice A0_0 l0_0.length c0_0) l0_0) (hr1 : Kd.C Kd.string w A1 l1.length l1) (hc1 : l1.length ≤ c1) (hr2 : Kd.C k45 w A2 l2.length l2) (hc2 : l2.length ≤ c2) (h : store_Turn.f l0_0 a0_1 a0_2 a0_3 a0_4 l1 l2 = some (r1, r2, r3, r4, r5, r6)) :
    Calls Try.prog 22 #[.agg #[.slice A0_0 l0_0.length c0_0, .int .i64 a0_1, .int .i64 a0_2, .int .i64 a0_3, .bool a0_4], .slice A1 l1.length c1, .slice A2 l2.length c2] w fun e w' => ∃ v0_ : Value, e = .returned (.tuple #[.agg #[v0_, .int .i64 r2, .int .i64 r3, .int .i64 r4, .bool r5], .int .i64 r6]) ∧ Kd.V Kd.string 9 w' w.heap.size (fun k_ => (P0_0_ k_ ∨ w.heap.size ≤ k_)) v0_ r1 ∧ Below w.heap.size w w' := by
  have hS := slat_v hs0_0
  unfold store_Turn.f at h
  refine (turn_any ⟨l0_0, a0_1, a0_2, a0_3, a0_4⟩ _ _ _ l1 _ w hS (strs_c hr1 hc1) (flts_c hr2 hc2)).mono fun e w' hr => sto_res hs0_0 rfl h (fun v' hv hs => ?_) hr
  subst hv
  obtain ⟨_, _, _, _, hb⟩ := hr
  exact slat_same hs (hS.stay hb)
end Go.Proofs.YtopaddpclipnjaaQ.P
namespace Go.Proofs.YtopaddpclipnjaaQ.P
open Go.RowKit Go.Proofs.YtopaddpclipnjaaW.PrintWords Go.Proofs.YtopaddpclipnjaaW.PrintLast Go.Proofs.YtopaddpclipnjaaW.PrintMore
attribute [local go_sem] max2_int min2_int max_two min_two max_three min_three max_four min_four
def foghornlaw04_alive.f (k : Nat)  : Option (Bool) := (store_New.f k 10).bind fun bt165 => ((store_Append.f bt165.1 bt165.2.1 bt165.2.2.1 bt165.2.2.2.1 bt165.2.2.2.2.1 (⟨#[97]⟩ : ByteArray) 0 0).bind fun bt174 => ((store_Append.f bt174.1 bt174.2.1 bt174.2.2.1 bt174.2.2.2.1 bt174.2.2.2.2.1 (⟨#[98]⟩ : ByteArray) 2 60).bind fun bt182 => ((store_Boot.f k bt182.1).bind fun bt191 => (if bt165.2.2.2.2.2 = 0 then (if bt174.2.2.2.2.2 = 0 then (if bt182.2.2.2.2.2 = 9 then (if bt191.2.2.2.2.2.2 = 0 then (if (bt191.2.2.2.2.2.1.length : Int) = 1 then (if 0 < (bt191.2.2.2.2.2.1.length : Int) then (some ((rdOf ByteArray.empty bt191.2.2.2.2.2.1 0).toList == ([97] : List UInt8))) else (none)) else (some false)) else (some false)) else (some false)) else (some false)) else (some false)))))
theorem foghornlaw04_alive.mono : ∀ k, LeO (foghornlaw04_alive.f k ) (foghornlaw04_alive.f (k + 1) ) := by
 intro  k
 unfold foghornlaw04_alive.f
 repeat' first
   | (with_reducible exact store_Boot.mono _ _)
   | (with_reducible exact store_New.mono _ _)
   | (with_reducible exact LeO.refl _)
   | (with_reducible exact LeO.none _)
   | (with_reducible refine LeO.ite ?_ ?_)
   | (with_reducible refine LeO.bind ?_ (fun _ => ?_))
   | exact store_Boot.mono _ _
   | exact store_New.mono _ _
   | exact LeO.none _
   | refine LeO.ite ?_ ?_
   | refine LeO.bind ?_ (fun _ => ?_)
set_option maxHeartbeats 8000000 in
set_option maxRecDepth 100000 in
theorem foghornlaw04_alive.callsT (k : Nat)  (r : Bool) (w : World) (h : foghornlaw04_alive.f k  = some r) (hrt_ : r = true) :
  Calls Try.prog 15 #[] w fun e w' => e = .returned (.bool r) ∧ Below w.heap.size w w' := by
 have hu26 := Try.underlying26
 have hu45 := Try.underlying45
 have hu24 := Try.underlying24
 have HB := aA (Below.refl w.heap.size w)
 have H : ((store_New.f k 10).bind fun bt165 => ((store_Append.f bt165.1 bt165.2.1 bt165.2.2.1 bt165.2.2.2.1 bt165.2.2.2.2.1 (⟨#[97]⟩ : ByteArray) 0 0).bind fun bt174 => ((store_Append.f bt174.1 bt174.2.1 bt174.2.2.1 bt174.2.2.2.1 bt174.2.2.2.2.1 (⟨#[98]⟩ : ByteArray) 2 60).bind fun bt182 => ((store_Boot.f k bt182.1).bind fun bt191 => (if bt165.2.2.2.2.2 = 0 then (if bt174.2.2.2.2.2 = 0 then (if bt182.2.2.2.2.2 = 9 then (if bt191.2.2.2.2.2.2 = 0 then (if (bt191.2.2.2.2.2.1.length : Int) = 1 then (if 0 < (bt191.2.2.2.2.2.1.length : Int) then (some ((rdOf ByteArray.empty bt191.2.2.2.2.2.1 0).toList == ([97] : List UInt8))) else (none)) else (some false)) else (some false)) else (some false)) else (some false)) else (some false)))))) = some r := h
 clear h
 replace H := Option.bind_eq_some_iff.mp H
 obtain ⟨⟨t165, t168, t169, t170, t171, t172⟩, A10, H⟩ := H
 have A1 := aA A10
 clear A10
 replace H := Option.bind_eq_some_iff.mp H
 obtain ⟨⟨t174, t177, t178, t179, t180, t181⟩, A20, H⟩ := H
 have A2 := aA A20
 clear A20
 replace H := Option.bind_eq_some_iff.mp H
 obtain ⟨⟨t182, t185, t186, t187, t188, t189⟩, A30, H⟩ := H
 have A3 := aA A30
 clear A30
 replace H := Option.bind_eq_some_iff.mp H
 obtain ⟨⟨t191, t194, t195, t196, t197, t198, t201⟩, A40, H⟩ := H
 have A4 := aA A40
 clear A40
 by_cases c5 : t172 = 0
 ·rw [if_pos c5] at H
  have c5b0 : (t172 == 0) = true := beq_iff_eq.mpr c5
  have c5b1 : (t172 != 0) = false := bne_eq_false_iff_eq.mpr c5
  clear c5
  by_cases c6 : t181 = 0
  ·rw [if_pos c6] at H
   have c6b0 : (t181 == 0) = true := beq_iff_eq.mpr c6
   have c6b1 : (t181 != 0) = false := bne_eq_false_iff_eq.mpr c6
   clear c6
   by_cases c7 : t189 = 9
   ·rw [if_pos c7] at H
    have c7b0 : (t189 == 9) = true := beq_iff_eq.mpr c7
    have c7b1 : (t189 != 9) = false := bne_eq_false_iff_eq.mpr c7
    clear c7
    by_cases c8 : t201 = 0
    ·rw [if_pos c8] at H
     have c8b0 : (t201 == 0) = true := beq_iff_eq.mpr c8
     have c8b1 : (t201 != 0) = false := bne_eq_false_iff_eq.mpr c8
     clear c8
     by_cases c9 : (t198.length : Int) = 1
     ·rw [if_pos c9] at H
      have c9b0 : ((t198.length : Int) == 1) = true := beq_iff_eq.mpr c9
      have c9b1 : ((t198.length : Int) != 1) = false := bne_eq_false_iff_eq.mpr c9
      clear c9
      by_cases c10 : 0 < (t198.length : Int)
      ·rw [if_pos c10] at H
       have c10b0 : decide (0 < (t198.length : Int)) = true := decide_eq_true c10
       have c10b1 : decide (0 < t198.length) = true := decide_eq_true (by omega)
       clear c10
       obtain rfl := Option.some.inj H
       go_enter Try.func15, Try.ntmps15
       go_wp2_with (first | ((with_reducible refine gate_callee (f := 11) rfl ?_); refine goesL_ (some 10) rfl rfl Try.func11 (by kernel_rfl) rfl #[.int .i64 10] rfl mS ?_; (with_reducible refine (store_New.calls k 10 t165 t168 t169 t170 t171 t172 _ A1.out).mono ?_); rintro e w11 ⟨v166, rfl, ho0, hb⟩; refine ⟨_, rfl, ?_⟩; have n0_ := aA (Kd.V_lower (Kd.V_mono (ok' := fun k_ => True) ho0 (fun k_ hk_ => trivial)) (below_size mB)); have n1_ := aA (below_step mB hb); clear HB; have HO167 := n0_; have HB := n1_; clear n0_ n1_; (try clear hb); (try clear hb2); (try clear hk); (try clear hi); (try clear ho0)) | ((with_reducible refine gate_dst (N := 1) rfl ?_); (try (refine gate_guard (by rfl) ?_; dsimp only)); refine box_event ?hg (N := 1) ?hd (cs := #[.slice none 0 0, .int .i64 0, .int .i64 0, .int .i64 0, .bool false]) (t := 26) ?hr ?_; (case hd => rfl); (case hg => rfl); (case hr => first | (go_simp; done) | (go_simp; rfl)); intro gb173 hg w12 hbox hb; have n0_ := aA (Kd.V_below (Kd.V_elderB (by (with_reducible repeat (first | apply Kd.V_alloc | apply Kd.V_drewN | apply Kd.V_drew)); exact HO167.out) gb173 (Nat.le_of_eq hg.symm)) hb); have n1_ := aA (below_step mB hb); have n2_ := aA (hbox); have n3_ := aA ((bZ hg mB)); have n4_ := aA ((bZ hg mB)); clear HO167 HB; have HO167 := n0_; have HB := n1_; have BK173 := n2_; have GW173 := n3_; have GE173 := n4_; clear n0_ n1_ n2_ n3_ n4_ hb hbox hg; obtain ⟨Ao13, co13, eo13⟩ := Kd.V_slice HO167.out; subst eo13; obtain ⟨hcz14_0, hcz14_1, hcz14_2, hcz14_3, hcz14_4⟩ := bC5 BK173.out; obtain ⟨hfz14_0, hfz14_1, hfz14_2, hfz14_3, hfz14_4⟩ := bF5 BK173.out) | ((with_reducible refine gate_store (t := 26) (p := 1) rfl ?_); refine store_event (t := 26) (p := 1) (v := ?vo_w15) (w1 := (((((w12.setCell ⟨gb173, 0, none⟩ (.slice Ao13 t165.length co13)).setCell ⟨gb173, 1, none⟩ (.int .i64 t168)).setCell ⟨gb173, 2, none⟩ (.int .i64 t169)).setCell ⟨gb173, 3, none⟩ (.int .i64 t170)).setCell ⟨gb173, 4, none⟩ (.bool t171))) ?hg ?ho ?hn ?hr ?_; (case ho => rfl); (case hg => rfl); (case hn => rfl); (case hr => first | (go_simp; done) | (go_simp; rfl)); intro w15 hw; have n0_ : Aside0 (Kd.V Kd.string 9 w15 w.heap.size (fun k_ => k_ ≠ gb173) (.slice Ao13 t165.length co13) t165) := ⟨(by rw [hw]; exact (by (with_reducible repeat (first | apply Kd.V_alloc | apply Kd.V_drewN | apply Kd.V_drew)); exact Kd.V_mono (Kd.V_far (p := ⟨gb173, 4, none⟩) (Kd.V_far (p := ⟨gb173, 3, none⟩) (Kd.V_far (p := ⟨gb173, 2, none⟩) (Kd.V_far (p := ⟨gb173, 1, none⟩) (Kd.V_far (p := ⟨gb173, 0, none⟩) (Kd.V_mono HO167.out (fun k_ hk => (⟨hk, hk.2⟩ : _ ∧ k_ ≠ gb173))) (fun _ hk => hk.2) (.slice Ao13 t165.length co13)) (fun _ hk => hk.2) (.int .i64 t168)) (fun _ hk => hk.2) (.int .i64 t169)) (fun _ hk => hk.2) (.int .i64 t170)) (fun _ hk => hk.2) (.bool t171)) (fun _ hk => hk.1.2)))⟩; have n1_ : Aside0 (w15.heap[gb173]? = some (.cells #[.slice Ao13 t165.length co13, .int .i64 t168, .int .i64 t169, .int .i64 t170, .bool t171] 26 (0, 0))) := ⟨(by rw [hw]; exact (by (with_reducible repeat (first | refine blk_drewN ?_ _ | refine blk_drew ?_ | refine blk_alloc ?_ _)); have h_ := BK173.out; exact pK 4 (pK 3 (pK 2 (pK 1 (pK 0 (h_)))))))⟩; have n2_ : Aside0 (Below w.heap.size w w15) := ⟨(by rw [hw]; exact (mD1 GE173.out))⟩; clear hw HO167 BK173 HB; have HO167 := n0_; have BK173 := n1_; have HB := n2_; clear n0_ n1_ n2_; obtain ⟨hcz16_0, hcz16_1, hcz16_2, hcz16_3, hcz16_4⟩ := bC5 BK173.out; obtain ⟨hfz16_0, hfz16_1, hfz16_2, hfz16_3, hfz16_4⟩ := bF5 BK173.out) | ((with_reducible refine gate_callee (f := 21) rfl ?_); refine goesL_ (some 16) rfl rfl Try.func21 (by kernel_rfl) rfl #[.agg #[.slice Ao13 t165.length co13, .int .i64 t168, .int .i64 t169, .int .i64 t170, .bool t171], .string (⟨#[97]⟩ : ByteArray), .agg #[.int .i64 0, .int .i64 0]] rfl mS ?_; (with_reducible refine (store_Append.calls (fun k_ => k_ ≠ gb173) _ _ t165 t168 t169 t170 t171 (⟨#[97]⟩ : ByteArray) 0 0 t174 t177 t178 t179 t180 t181 _ ?side1 A2.out).mono ?_); (case side1 => exact HO167.out); rintro e w17 ⟨v175, rfl, ho0, hb⟩; refine ⟨_, rfl, ?_⟩; have n0_ := aA (Kd.V_below (by (with_reducible repeat (first | apply Kd.V_alloc | apply Kd.V_drewN | apply Kd.V_drew)); exact HO167.out) hb); have n1_ := aA (Kd.V_lower (Kd.V_mono (ok' := fun k_ => k_ ≠ gb173) ho0 (fun k_ hk_ => Or.elim hk_ (fun hs_ => hs_) (fun hn_ => (Kd.freshB (g := gb173) (o := .cells #[.slice Ao13 t165.length co13, .int .i64 t168, .int .i64 t169, .int .i64 t170, .bool t171] 26 (0, 0)) (mK BK173.out) k_ hn_)))) (below_size (mD1 GE173.out))); have n2_ := aA (bB BK173.out hb); have n3_ := aA (below_step (mD1 GE173.out) hb); clear HO167 BK173 HB; have HO167 := n0_; have HO176 := n1_; have BK173 := n2_; have HB := n3_; clear n0_ n1_ n2_ n3_; (try clear hb); (try clear hb2); (try clear hk); (try clear hi); (try clear ho0); obtain ⟨Ao18, co18, eo18⟩ := Kd.V_slice HO176.out; subst eo18; obtain ⟨hcz19_0, hcz19_1, hcz19_2, hcz19_3, hcz19_4⟩ := bC5 BK173.out; obtain ⟨hfz19_0, hfz19_1, hfz19_2, hfz19_3, hfz19_4⟩ := bF5 BK173.out) | ((with_reducible refine gate_store (t := 26) (p := 1) rfl ?_); refine store_event (t := 26) (p := 1) (v := ?vo_w20) (w1 := (((((w17.setCell ⟨gb173, 0, none⟩ (.slice Ao18 t174.length co18)).setCell ⟨gb173, 1, none⟩ (.int .i64 t177)).setCell ⟨gb173, 2, none⟩ (.int .i64 t178)).setCell ⟨gb173, 3, none⟩ (.int .i64 t179)).setCell ⟨gb173, 4, none⟩ (.bool t180))) ?hg ?ho ?hn ?hr ?_; (case ho => rfl); (case hg => rfl); (case hn => rfl); (case hr => first | (go_simp; done) | (go_simp; rfl)); intro w20 hw; have n0_ : Aside0 (Kd.V Kd.string 9 w20 w.heap.size (fun k_ => k_ ≠ gb173) (.slice Ao13 t165.length co13) t165) := ⟨(by rw [hw]; exact (by (with_reducible repeat (first | apply Kd.V_alloc | apply Kd.V_drewN | apply Kd.V_drew)); exact Kd.V_mono (Kd.V_far (p := ⟨gb173, 4, none⟩) (Kd.V_far (p := ⟨gb173, 3, none⟩) (Kd.V_far (p := ⟨gb173, 2, none⟩) (Kd.V_far (p := ⟨gb173, 1, none⟩) (Kd.V_far (p := ⟨gb173, 0, none⟩) (Kd.V_mono HO167.out (fun k_ hk => (⟨hk, hk⟩ : _ ∧ k_ ≠ gb173))) (fun _ hk => hk.2) (.slice Ao18 t174.length co18)) (fun _ hk => hk.2) (.int .i64 t177)) (fun _ hk => hk.2) (.int .i64 t178)) (fun _ hk => hk.2) (.int .i64 t179)) (fun _ hk => hk.2) (.bool t180)) (fun _ hk => hk.1)))⟩; have n1_ : Aside0 (Kd.V Kd.string 9 w20 w.heap.size (fun k_ => k_ ≠ gb173) (.slice Ao18 t174.length co18) t174) := ⟨(by rw [hw]; exact (by (with_reducible repeat (first | apply Kd.V_alloc | apply Kd.V_drewN | apply Kd.V_drew)); exact Kd.V_mono (Kd.V_far (p := ⟨gb173, 4, none⟩) (Kd.V_far (p := ⟨gb173, 3, none⟩) (Kd.V_far (p := ⟨gb173, 2, none⟩) (Kd.V_far (p := ⟨gb173, 1, none⟩) (Kd.V_far (p := ⟨gb173, 0, none⟩) (Kd.V_mono HO176.out (fun k_ hk => (⟨hk, hk⟩ : _ ∧ k_ ≠ gb173))) (fun _ hk => hk.2) (.slice Ao18 t174.length co18)) (fun _ hk => hk.2) (.int .i64 t177)) (fun _ hk => hk.2) (.int .i64 t178)) (fun _ hk => hk.2) (.int .i64 t179)) (fun _ hk => hk.2) (.bool t180)) (fun _ hk => hk.1)))⟩; have n2_ : Aside0 (w20.heap[gb173]? = some (.cells #[.slice Ao18 t174.length co18, .int .i64 t177, .int .i64 t178, .int .i64 t179, .bool t180] 26 (0, 0))) := ⟨(by rw [hw]; exact (by (with_reducible repeat (first | refine blk_drewN ?_ _ | refine blk_drew ?_ | refine blk_alloc ?_ _)); have h_ := BK173.out; exact pK 4 (pK 3 (pK 2 (pK 1 (pK 0 (h_)))))))⟩; have n3_ : Aside0 (Below w.heap.size w w20) := ⟨(by rw [hw]; exact (mD1 GE173.out))⟩; clear hw HO167 HO176 BK173 HB; have HO167 := n0_; have HO176 := n1_; have BK173 := n2_; have HB := n3_; clear n0_ n1_ n2_ n3_; obtain ⟨hcz21_0, hcz21_1, hcz21_2, hcz21_3, hcz21_4⟩ := bC5 BK173.out; obtain ⟨hfz21_0, hfz21_1, hfz21_2, hfz21_3, hfz21_4⟩ := bF5 BK173.out) | ((with_reducible refine gate_callee (f := 21) rfl ?_); refine goesL_ (some 22) rfl rfl Try.func21 (by kernel_rfl) rfl #[.agg #[.slice Ao18 t174.length co18, .int .i64 t177, .int .i64 t178, .int .i64 t179, .bool t180], .string (⟨#[98]⟩ : ByteArray), .agg #[.int .i64 2, .int .i64 60]] rfl mS ?_; (with_reducible refine (store_Append.calls (fun k_ => k_ ≠ gb173) _ _ t174 t177 t178 t179 t180 (⟨#[98]⟩ : ByteArray) 2 60 t182 t185 t186 t187 t188 t189 _ ?side1 A3.out).mono ?_); (case side1 => exact HO176.out); rintro e w22 ⟨v183, rfl, ho0, hb⟩; refine ⟨_, rfl, ?_⟩; have n0_ := aA (Kd.V_below (by (with_reducible repeat (first | apply Kd.V_alloc | apply Kd.V_drewN | apply Kd.V_drew)); exact HO167.out) hb); have n1_ := aA (Kd.V_below (by (with_reducible repeat (first | apply Kd.V_alloc | apply Kd.V_drewN | apply Kd.V_drew)); exact HO176.out) hb); have n2_ := aA (Kd.V_lower (Kd.V_mono (ok' := fun k_ => k_ ≠ gb173) ho0 (fun k_ hk_ => Or.elim hk_ (fun hs_ => hs_) (fun hn_ => (Kd.freshB (g := gb173) (o := .cells #[.slice Ao18 t174.length co18, .int .i64 t177, .int .i64 t178, .int .i64 t179, .bool t180] 26 (0, 0)) (mK BK173.out) k_ hn_)))) (below_size (mD1 GE173.out))); have n3_ := aA (bB BK173.out hb); have n4_ := aA (below_step (mD1 GE173.out) hb); clear HO167 HO176 BK173 HB; have HO167 := n0_; have HO176 := n1_; have HO184 := n2_; have BK173 := n3_; have HB := n4_; clear n0_ n1_ n2_ n3_ n4_; (try clear hb); (try clear hb2); (try clear hk); (try clear hi); (try clear ho0)) | ((with_reducible refine gate_dst (N := 4) rfl ?_); (try (refine gate_guard (by rfl) ?_; dsimp only)); refine box_event ?hg (N := 4) ?hd (cs := #[.slice none 0 0, .int .i64 0, .int .i64 0, .int .i64 0, .bool false]) (t := 26) ?hr ?_; (case hd => rfl); (case hg => rfl); (case hr => first | (go_simp; done) | (go_simp; rfl)); intro gb190 hg w23 hbox hb; have n0_ := aA (Kd.V_below (Kd.V_elderB (by (with_reducible repeat (first | apply Kd.V_alloc | apply Kd.V_drewN | apply Kd.V_drew)); exact HO167.out) gb190 (Nat.le_of_eq hg.symm)) hb); have n1_ := aA (Kd.V_below (Kd.V_elderB (by (with_reducible repeat (first | apply Kd.V_alloc | apply Kd.V_drewN | apply Kd.V_drew)); exact HO176.out) gb190 (Nat.le_of_eq hg.symm)) hb); have n2_ := aA (Kd.V_below (Kd.V_elderB (by (with_reducible repeat (first | apply Kd.V_alloc | apply Kd.V_drewN | apply Kd.V_drew)); exact HO184.out) gb190 (Nat.le_of_eq hg.symm)) hb); have n3_ := aA (bB BK173.out hb); have n4_ := aA (below_step (mD1 GE173.out) hb); have n5_ := aA (hbox); have n6_ := aA ((bZ hg (mD1 GE173.out))); have n7_ := aA ((bZ hg (mD1 GE173.out))); have n8_ := aA ((bL hg BK173.out)); have n9_ := aA ((bG hg BK173.out)); clear HO167 HO176 HO184 BK173 HB; have HO167 := n0_; have HO176 := n1_; have HO184 := n2_; have BK173 := n3_; have HB := n4_; have BK190 := n5_; have GW190 := n6_; have GE190 := n7_; have NB173_190 := n8_; have NB190_173 := n9_; clear n0_ n1_ n2_ n3_ n4_ n5_ n6_ n7_ n8_ n9_ hb hbox hg; obtain ⟨Ao24, co24, eo24⟩ := Kd.V_slice HO184.out; subst eo24; have hnb25 := NB190_173.out; have hnc25 := NB173_190.out; obtain ⟨hcz26_0, hcz26_1, hcz26_2, hcz26_3, hcz26_4⟩ := bC5 BK190.out; obtain ⟨hfz26_0, hfz26_1, hfz26_2, hfz26_3, hfz26_4⟩ := bF5 BK190.out) | ((with_reducible refine gate_store (t := 26) (p := 4) rfl ?_); refine store_event (t := 26) (p := 4) (v := ?vo_w27) (w1 := (((((w23.setCell ⟨gb190, 0, none⟩ (.slice Ao24 t182.length co24)).setCell ⟨gb190, 1, none⟩ (.int .i64 t185)).setCell ⟨gb190, 2, none⟩ (.int .i64 t186)).setCell ⟨gb190, 3, none⟩ (.int .i64 t187)).setCell ⟨gb190, 4, none⟩ (.bool t188))) ?hg ?ho ?hn ?hr ?_; (case ho => rfl); (case hg => rfl); (case hn => rfl); (case hr => first | (go_simp; done) | (go_simp; rfl)); intro w27 hw; have n0_ : Aside0 (Kd.V Kd.string 9 w27 w.heap.size (fun k_ => k_ ≠ gb173 ∧ k_ ≠ gb190) (.slice Ao13 t165.length co13) t165) := ⟨(by rw [hw]; exact (by (with_reducible repeat (first | apply Kd.V_alloc | apply Kd.V_drewN | apply Kd.V_drew)); exact Kd.V_mono (Kd.V_far (p := ⟨gb190, 4, none⟩) (Kd.V_far (p := ⟨gb190, 3, none⟩) (Kd.V_far (p := ⟨gb190, 2, none⟩) (Kd.V_far (p := ⟨gb190, 1, none⟩) (Kd.V_far (p := ⟨gb190, 0, none⟩) (Kd.V_mono HO167.out (fun k_ hk => (⟨hk, hk.2⟩ : _ ∧ k_ ≠ gb190))) (fun _ hk => hk.2) (.slice Ao24 t182.length co24)) (fun _ hk => hk.2) (.int .i64 t185)) (fun _ hk => hk.2) (.int .i64 t186)) (fun _ hk => hk.2) (.int .i64 t187)) (fun _ hk => hk.2) (.bool t188)) (fun _ hk => ⟨hk.1.1, hk.1.2⟩)))⟩; have n1_ : Aside0 (Kd.V Kd.string 9 w27 w.heap.size (fun k_ => k_ ≠ gb173 ∧ k_ ≠ gb190) (.slice Ao18 t174.length co18) t174) := ⟨(by rw [hw]; exact (by (with_reducible repeat (first | apply Kd.V_alloc | apply Kd.V_drewN | apply Kd.V_drew)); exact Kd.V_mono (Kd.V_far (p := ⟨gb190, 4, none⟩) (Kd.V_far (p := ⟨gb190, 3, none⟩) (Kd.V_far (p := ⟨gb190, 2, none⟩) (Kd.V_far (p := ⟨gb190, 1, none⟩) (Kd.V_far (p := ⟨gb190, 0, none⟩) (Kd.V_mono HO176.out (fun k_ hk => (⟨hk, hk.2⟩ : _ ∧ k_ ≠ gb190))) (fun _ hk => hk.2) (.slice Ao24 t182.length co24)) (fun _ hk => hk.2) (.int .i64 t185)) (fun _ hk => hk.2) (.int .i64 t186)) (fun _ hk => hk.2) (.int .i64 t187)) (fun _ hk => hk.2) (.bool t188)) (fun _ hk => ⟨hk.1.1, hk.1.2⟩)))⟩; have n2_ : Aside0 (Kd.V Kd.string 9 w27 w.heap.size (fun k_ => k_ ≠ gb173 ∧ k_ ≠ gb190) (.slice Ao24 t182.length co24) t182) := ⟨(by rw [hw]; exact (by (with_reducible repeat (first | apply Kd.V_alloc | apply Kd.V_drewN | apply Kd.V_drew)); exact Kd.V_mono (Kd.V_far (p := ⟨gb190, 4, none⟩) (Kd.V_far (p := ⟨gb190, 3, none⟩) (Kd.V_far (p := ⟨gb190, 2, none⟩) (Kd.V_far (p := ⟨gb190, 1, none⟩) (Kd.V_far (p := ⟨gb190, 0, none⟩) (Kd.V_mono HO184.out (fun k_ hk => (⟨hk, hk.2⟩ : _ ∧ k_ ≠ gb190))) (fun _ hk => hk.2) (.slice Ao24 t182.length co24)) (fun _ hk => hk.2) (.int .i64 t185)) (fun _ hk => hk.2) (.int .i64 t186)) (fun _ hk => hk.2) (.int .i64 t187)) (fun _ hk => hk.2) (.bool t188)) (fun _ hk => ⟨hk.1.1, hk.1.2⟩)))⟩; have n3_ : Aside0 (w27.heap[gb173]? = some (.cells #[.slice Ao18 t174.length co18, .int .i64 t177, .int .i64 t178, .int .i64 t179, .bool t180] 26 (0, 0))) := ⟨(by rw [hw]; exact (by (with_reducible repeat (first | refine blk_drewN ?_ _ | refine blk_drew ?_ | refine blk_alloc ?_ _)); refine blk_far ?_ NB173_190.out _; (with_reducible repeat (first | refine blk_drewN ?_ _ | refine blk_drew ?_ | refine blk_alloc ?_ _)); refine blk_far ?_ NB173_190.out _; (with_reducible repeat (first | refine blk_drewN ?_ _ | refine blk_drew ?_ | refine blk_alloc ?_ _)); refine blk_far ?_ NB173_190.out _; (with_reducible repeat (first | refine blk_drewN ?_ _ | refine blk_drew ?_ | refine blk_alloc ?_ _)); refine blk_far ?_ NB173_190.out _; (with_reducible repeat (first | refine blk_drewN ?_ _ | refine blk_drew ?_ | refine blk_alloc ?_ _)); refine blk_far ?_ NB173_190.out _; (with_reducible repeat (first | refine blk_drewN ?_ _ | refine blk_drew ?_ | refine blk_alloc ?_ _)); exact BK173.out))⟩; have n4_ : Aside0 (w27.heap[gb190]? = some (.cells #[.slice Ao24 t182.length co24, .int .i64 t185, .int .i64 t186, .int .i64 t187, .bool t188] 26 (0, 0))) := ⟨(by rw [hw]; exact (by (with_reducible repeat (first | refine blk_drewN ?_ _ | refine blk_drew ?_ | refine blk_alloc ?_ _)); have h_ := BK190.out; exact pK 4 (pK 3 (pK 2 (pK 1 (pK 0 (h_)))))))⟩; have n5_ : Aside0 (Below w.heap.size w w27) := ⟨(by rw [hw]; exact (mD2 GE173.out GE190.out))⟩; clear hw HO167 HO176 HO184 BK173 BK190 HB; have HO167 := n0_; have HO176 := n1_; have HO184 := n2_; have BK173 := n3_; have BK190 := n4_; have HB := n5_; clear n0_ n1_ n2_ n3_ n4_ n5_; obtain ⟨hcz28_0, hcz28_1, hcz28_2, hcz28_3, hcz28_4⟩ := bC5 BK190.out; obtain ⟨hfz28_0, hfz28_1, hfz28_2, hfz28_3, hfz28_4⟩ := bF5 BK190.out) | ((with_reducible refine gate_callee (f := 12) rfl ?_); refine goesL_ (some 28) rfl rfl Try.func12 (by kernel_rfl) rfl #[.agg #[.slice Ao24 t182.length co24]] rfl mS ?_; (with_reducible refine (store_Boot.calls k (fun k_ => (k_ ≠ gb173 ∧ k_ ≠ gb190)) _ _ t182 t191 t194 t195 t196 t197 t198 t201 _ ?side1 A4.out).mono ?_); (case side1 => exact HO184.out); rintro e w29 ⟨v192, v199, rfl, ho0, ho1, hb⟩; refine ⟨_, rfl, ?_⟩; have n0_ := aA (Kd.V_elder' (by (with_reducible repeat (first | apply Kd.V_alloc | apply Kd.V_drewN | apply Kd.V_drew)); exact HO167.out) (Kd.R_base ho1) hb); have n1_ := aA (Kd.V_elder' (by (with_reducible repeat (first | apply Kd.V_alloc | apply Kd.V_drewN | apply Kd.V_drew)); exact HO176.out) (Kd.R_base ho1) hb); have n2_ := aA (Kd.V_elder' (by (with_reducible repeat (first | apply Kd.V_alloc | apply Kd.V_drewN | apply Kd.V_drew)); exact HO184.out) (Kd.R_base ho1) hb); have n3_ := aA (Kd.V_lower (Kd.V_mono (ok' := fun k_ => some k_ ≠ (v199 : Value).ownBlock ∧ k_ ≠ gb173 ∧ k_ ≠ gb190) ho0 (fun k_ hk_ => ⟨hk_.2, Or.elim hk_.1 (fun hs_ => hs_.1) (fun hn_ => (Kd.freshB (g := gb173) (o := .cells #[.slice Ao18 t174.length co18, .int .i64 t177, .int .i64 t178, .int .i64 t179, .bool t180] 26 (0, 0)) (mK BK173.out) k_ hn_)), Or.elim hk_.1 (fun hs_ => hs_.2) (fun hn_ => (Kd.freshB (g := gb190) (o := .cells #[.slice Ao24 t182.length co24, .int .i64 t185, .int .i64 t186, .int .i64 t187, .bool t188] 26 (0, 0)) (mK BK190.out) k_ hn_))⟩)) (below_size (mD2 GE173.out GE190.out))); have n4_ := aA (Kd.R_lower (Kd.R_mono (ok' := fun k_ => True) ho1 (fun _ hk_ => trivial)) (below_size (mD2 GE173.out GE190.out))); have n5_ := aA (bB BK173.out hb); have n6_ := aA (bB BK190.out hb); have n7_ := aA (below_step (mD2 GE173.out GE190.out) hb); clear HO167 HO176 HO184 BK173 BK190 HB; have HO167 := n0_; have HO176 := n1_; have HO184 := n2_; have HO193 := n3_; have HO200 := n4_; have BK173 := n5_; have BK190 := n6_; have HB := n7_; clear n0_ n1_ n2_ n3_ n4_ n5_ n6_ n7_; (try clear hb); (try clear hb2); (try clear hk); (try clear hi); (try clear ho0); (try clear ho1)) | ((with_reducible refine gate_dst (N := 6) rfl ?_); (try (refine gate_guard (by rfl) ?_; dsimp only)); refine box_event ?hg (N := 6) ?hd (cs := #[.slice none 0 0, .int .i64 0, .int .i64 0, .int .i64 0, .bool false]) (t := 26) ?hr ?_; (case hd => rfl); (case hg => rfl); (case hr => first | (go_simp; done) | (go_simp; rfl)); intro gb202 hg w30 hbox hb; have n0_ := aA (Kd.V_below (Kd.V_elderB (by (with_reducible repeat (first | apply Kd.V_alloc | apply Kd.V_drewN | apply Kd.V_drew)); exact HO167.out) gb202 (Nat.le_of_eq hg.symm)) hb); have n1_ := aA (Kd.V_below (Kd.V_elderB (by (with_reducible repeat (first | apply Kd.V_alloc | apply Kd.V_drewN | apply Kd.V_drew)); exact HO176.out) gb202 (Nat.le_of_eq hg.symm)) hb); have n2_ := aA (Kd.V_below (Kd.V_elderB (by (with_reducible repeat (first | apply Kd.V_alloc | apply Kd.V_drewN | apply Kd.V_drew)); exact HO184.out) gb202 (Nat.le_of_eq hg.symm)) hb); have n3_ := aA (Kd.V_below (Kd.V_elderB (by (with_reducible repeat (first | apply Kd.V_alloc | apply Kd.V_drewN | apply Kd.V_drew)); exact HO193.out) gb202 (Nat.le_of_eq hg.symm)) hb); have n4_ := aA (Kd.R_below (mR HO200.out) hb); have n5_ := aA (bB BK173.out hb); have n6_ := aA (bB BK190.out hb); have n7_ := aA (below_step (mD2 GE173.out GE190.out) hb); have n8_ := aA (hbox); have n9_ := aA ((bZ hg (mD2 GE173.out GE190.out))); have n10_ := aA ((bZ hg (mD2 GE173.out GE190.out))); have n11_ := aA ((bL hg BK173.out)); have n12_ := aA ((bG hg BK173.out)); have n13_ := aA ((bL hg BK190.out)); have n14_ := aA ((bG hg BK190.out)); clear HO167 HO176 HO184 HO193 HO200 BK173 BK190 HB; have HO167 := n0_; have HO176 := n1_; have HO184 := n2_; have HO193 := n3_; have HO200 := n4_; have BK173 := n5_; have BK190 := n6_; have HB := n7_; have BK202 := n8_; have GW202 := n9_; have GE202 := n10_; have NB173_202 := n11_; have NB202_173 := n12_; have NB190_202 := n13_; have NB202_190 := n14_; clear n0_ n1_ n2_ n3_ n4_ n5_ n6_ n7_ n8_ n9_ n10_ n11_ n12_ n13_ n14_ hb hbox hg; obtain ⟨Ao31, co31, eo31⟩ := Kd.V_slice HO193.out; subst eo31; have hnb32 := NB202_173.out; have hnc32 := NB173_202.out; have hnb33 := NB202_190.out; have hnc33 := NB190_202.out; obtain ⟨hcz34_0, hcz34_1, hcz34_2, hcz34_3, hcz34_4⟩ := bC5 BK202.out; obtain ⟨hfz34_0, hfz34_1, hfz34_2, hfz34_3, hfz34_4⟩ := bF5 BK202.out; obtain ⟨Ao35, co35, eo35⟩ := Kd.R_slice HO200.out; subst eo35; have p203 : 0 ≤ (0 : Int) := (by omega); have q203 : 0 < (t198.length : Int) := of_decide_eq_true (by first | (with_reducible assumption) | assumption); obtain ⟨ad203, e203, hx203_0⟩ := Kd.at_string (Kd.R_reads' HO200.out).2.2 0 p203 q203; cases e203; have qi203 : (0 < t198.length) = True := eq_true (by omega); (try rw [show ((0 : Int)).toNat = 0 from rfl] at hx203_0); (try rw [Addr.add_zero'] at hx203_0); have hn203_0 : ad203.block ≠ gb202 := Kd.own_blk (Kd.R_ne HO200.out BK202.out (by decide)); have hn203_1 : ad203.block ≠ gb202 := Kd.own_blk (Kd.R_ne HO200.out BK202.out (by decide)); have hn203_2 : ad203.block ≠ gb202 := Kd.own_blk (Kd.R_ne HO200.out BK202.out (by decide)); have hn203_3 : ad203.block ≠ gb202 := Kd.own_blk (Kd.R_ne HO200.out BK202.out (by decide)); have hn203_4 : ad203.block ≠ gb202 := Kd.own_blk (Kd.R_ne HO200.out BK202.out (by decide)); replace hx203_0 := (cell_far (p := ⟨gb202, 0, none⟩) (by first | (rw [add_block]; exact hn203_0) | (show (Addr.add _ _).block ≠ _; rw [add_block]; exact hn203_0) | exact hn203_0) (.slice Ao31 t191.length co31)).trans hx203_0; replace hx203_0 := (cell_far (p := ⟨gb202, 1, none⟩) (by first | (rw [add_block]; exact hn203_1) | (show (Addr.add _ _).block ≠ _; rw [add_block]; exact hn203_1) | exact hn203_1) (.int .i64 t194)).trans hx203_0; replace hx203_0 := (cell_far (p := ⟨gb202, 2, none⟩) (by first | (rw [add_block]; exact hn203_2) | (show (Addr.add _ _).block ≠ _; rw [add_block]; exact hn203_2) | exact hn203_2) (.int .i64 t195)).trans hx203_0; replace hx203_0 := (cell_far (p := ⟨gb202, 3, none⟩) (by first | (rw [add_block]; exact hn203_3) | (show (Addr.add _ _).block ≠ _; rw [add_block]; exact hn203_3) | exact hn203_3) (.int .i64 t196)).trans hx203_0; replace hx203_0 := (cell_far (p := ⟨gb202, 4, none⟩) (by first | (rw [add_block]; exact hn203_4) | (show (Addr.add _ _).block ≠ _; rw [add_block]; exact hn203_4) | exact hn203_4) (.bool t197)).trans hx203_0; clear hn203_0 hn203_1 hn203_2 hn203_3 hn203_4; replace p203 := eq_true p203; replace q203 := eq_true q203))
       go_ret
       exact ⟨by first | rfl | (simp [errW_none, errW_some] <;> rfl) | (simp [*, errW_none, errW_some] <;> rfl), by repeat (first | (with_reducible first | exact HB.out | apply below_alloc | apply pw_below_drewN | apply below_drew1 | refine below_set ?_ GE173.out | refine below_set ?_ GE190.out | refine below_set ?_ GE202.out) | exact HB.out)⟩
      ·rw [if_neg c10] at H
       exact absurd H (by simp)
     ·rw [if_neg c9] at H
      have c9b0 : ((t198.length : Int) == 1) = false := beq_eq_false_iff_ne.mpr c9
      have c9b1 : ((t198.length : Int) != 1) = true := bne_iff_ne.mpr c9
      exact absurd (Option.some.inj H) (by rw [hrt_]; decide)
    ·rw [if_neg c8] at H
     have c8b0 : (t201 == 0) = false := beq_eq_false_iff_ne.mpr c8
     have c8b1 : (t201 != 0) = true := bne_iff_ne.mpr c8
     exact absurd (Option.some.inj H) (by rw [hrt_]; decide)
   ·rw [if_neg c7] at H
    have c7b0 : (t189 == 9) = false := beq_eq_false_iff_ne.mpr c7
    have c7b1 : (t189 != 9) = true := bne_iff_ne.mpr c7
    exact absurd (Option.some.inj H) (by rw [hrt_]; decide)
  ·rw [if_neg c6] at H
   have c6b0 : (t181 == 0) = false := beq_eq_false_iff_ne.mpr c6
   have c6b1 : (t181 != 0) = true := bne_iff_ne.mpr c6
   exact absurd (Option.some.inj H) (by rw [hrt_]; decide)
 ·rw [if_neg c5] at H
  have c5b0 : (t172 == 0) = false := beq_eq_false_iff_ne.mpr c5
  have c5b1 : (t172 != 0) = true := bne_iff_ne.mpr c5
  exact absurd (Option.some.inj H) (by rw [hrt_]; decide)
end Go.Proofs.YtopaddpclipnjaaQ.P
namespace Go.Proofs.Ytopaddpclipnjaa
open Go.RowKit
structure InvD (xs : List ByteArray) (g top : Int) (h : List ByteArray) : Prop where
  log : logB xs = true
  g1 : 1 ≤ g
  gt : g ≤ top
  t2 : top ≤ 250
  len : (h.length : Int) ≤ areaD xs
  head : hdrG (sec xs (g % 2)) (g % 2) = g
  other : hdrG (sec xs (1 - g % 2)) (1 - g % 2) < g
  recs : ∀ (i : Nat) (hi : i < h.length), recB (sec xs (placeD xs g i)) g (i + 1) ∧ openP (sec xs (placeD xs g i)) = h[i]
  next : ∀ i : Nat, h.length ≤ i → (i : Int) < areaD xs → tl (sec xs (placeD xs g i)) ≠ stampL g (i + 1)
  mine : ∀ i : Nat, (i : Int) < areaD xs → at8 (sec xs (placeD xs g i)) 0 ≤ g
  firsts : ∀ i : Int, 0 ≤ i → i < xs.length → at8 (sec xs i) 0 ≤ top
  tails : ∀ i : Int, 0 ≤ i → i < xs.length → tl8 (sec xs i) ≤ at8 (sec xs i) 0
theorem par (g : Int) : g % 2 = 0 ∨ g % 2 = 1 := by omega
theorem InvD.newest {xs : List ByteArray} {g top : Int} {h : List ByteArray} (H : InvD xs g top h) : newestD xs = g := by
  have h1 := H.head
  have h2 := H.other
  unfold newestD
  rcases par g with e | e <;> rw [e] at h1 h2
  · rw [show (1 : Int) - 0 = 1 by omega] at h2
    omega
  · rw [show (1 : Int) - 1 = 0 by omega] at h2
    omega
theorem InvD.found {xs : List ByteArray} {g top : Int} {h : List ByteArray} (H : InvD xs g top h) (d : Nat) : ∀ i : Nat, (i : Int) + d = areaD xs → foundD xs g d i = h.drop i := by
  have hl := H.len
  induction d with
  | zero =>
    intro i hi
    unfold foundD
    rw [List.drop_of_length_le (by omega)]
  | succ d ih =>
    intro i hi
    unfold foundD
    by_cases h1 : i < h.length
    · obtain ⟨r1, r2⟩ := H.recs i h1
      rw [if_pos r1, r2, ih (i + 1) (by omega)]
      exact (List.drop_eq_getElem_cons h1).symm
    · rw [if_neg (not_rec (H.next i (by omega) (by omega))), List.drop_of_length_le (by omega)]
theorem InvD.boot {xs : List ByteArray} {g top : Int} {h : List ByteArray} (H : InvD xs g top h) : bootS xs = (⟨xs, g, h.length, topF 0 xs, false⟩, h, 0) := by
  have ha := (logB_nums H.log).2.2.2.2.2.2.2
  have hf : foundA xs g = h := by
    unfold foundA
    rw [H.found _ 0 (by omega), List.drop_zero]
  unfold bootS
  rw [H.newest, hf, if_neg (by rw [H.log]; simp), if_neg (by have := H.g1; omega)]
structure Wrote (xs : List ByteArray) (q : Int) (Y : ByteArray) (ys : List ByteArray) : Prop where
  log : logB ys = true
  len : ys.length = xs.length
  here : sec ys q = Y
  far : ∀ i : Int, 0 ≤ i → i ≠ q → sec ys i = sec xs i
theorem wrote_set {xs : List ByteArray} (hl : logB xs = true) {q : Int} (h0 : 0 ≤ q) (h1 : q < xs.length) {Y : ByteArray} (hY : Y.size = 128) : Wrote xs q Y (xs.set q.toNat Y) := by
  refine ⟨?_, List.length_set .., ?_, ?_⟩
  · obtain ⟨n1, n2, n3, hsz, _⟩ := logB_nums hl
    unfold logB rightD
    rw [List.length_set]
    have ha : (xs.set q.toNat Y).any badSize = false := by
      rw [List.any_eq_false]
      intro x hx
      have : x.size = 128 := by
        rcases List.mem_or_eq_of_mem_set hx with hx | rfl
        · exact hsz x hx
        · exact hY
      simp [badSize, this]
    rw [ha]
    simp
    omega
  · rw [sec_set h0 h1 q h0, if_pos rfl]
  · intro i hi hne
    rw [sec_set h0 h1 i hi, if_neg hne]
theorem tearL_set {xs : List ByteArray} (hl : logB xs = true) {q : Int} (h0 : 0 ≤ q) (h1 : q < xs.length) {T : ByteArray} (hT : T.size = 128) {k : Int} (k0 : 0 ≤ k) (k1 : k ≤ 128) :
    tearL xs q T k = xs.set q.toNat (over (sec xs q) T k.toNat) := by
  obtain ⟨n1, n2, n3, hsz, hr, _⟩ := logB_nums hl
  have he : tearE xs q T k = 0 := by
    unfold tearE
    rw [mayD_in hr h0 h1, if_neg (by omega), if_neg (by omega), if_neg (by omega)]
  unfold tearL
  rw [if_pos he]
  rfl
theorem tear_wrote {xs : List ByteArray} (hl : logB xs = true) {q : Int} (h0 : 0 ≤ q) (h1 : q < xs.length) {T : ByteArray} (hT : T.size = 128) {k : Int} (k0 : 0 ≤ k) (k1 : k ≤ 128) :
    Wrote xs q (over (sec xs q) T k.toNat) (tearL xs q T k) := by
  rw [tearL_set hl h0 h1 hT k0 k1]
  exact wrote_set hl h0 h1 (over_sz (sec_size hl h0 h1) hT _ (by omega))
theorem tl8_T {T p : ByteArray} {g no : Int} (hT : SealT T g no p) : tl8 T = g ∧ at8 T 0 = g := by
  have hr := (stampB_iff _ _).1 hT.sealed.stamp
  exact ⟨tl8_of hT.sealed.tail (by omega), hT.sealed.first⟩
theorem over_ends {X T p : ByteArray} {g no b : Int} (hX : X.size = 128) (hT : SealT T g no p) {k : Nat} (hk : k ≤ 128) (ht : tl8 X ≤ at8 X 0) (hb : at8 X 0 ≤ g) : at8 (over X T k) 0 ≤ g ∧ tl8 (over X T k) ≤ at8 (over X T k) 0 := by
  obtain ⟨e1, e2⟩ := tl8_T hT
  unfold tl8 at *
  rw [at8_over hX hT.size hk, at8_over hX hT.size hk]
  split <;> split <;> omega
theorem over_all {X T : ByteArray} (hX : X.size = 128) (hT : T.size = 128) : over X T 128 = T := by
  apply over_same
  rw [List.drop_of_length_le (by rw [len_data]; omega), List.drop_of_length_le (by rw [len_data]; omega)]
theorem InvD.wrote_far {xs ys : List ByteArray} {g top : Int} {h : List ByteArray} (H : InvD xs g top h) {q : Int} {Y : ByteArray} (h0 : 0 ≤ q) (h1 : q < xs.length) (W : Wrote xs q Y ys)
    (hf : at8 Y 0 ≤ top) (ht : tl8 Y ≤ at8 Y 0) (hq : q ≠ g % 2) (hq2 : q = 1 - g % 2 → hdrG Y (1 - g % 2) < g)
    (hr : ∀ i : Nat, (i : Int) < areaD xs → q = placeD xs g i → h.length ≤ i ∧ tl Y ≠ stampL g (i + 1) ∧ at8 Y 0 ≤ g) : InvD ys g top h := by
  have hn := logB_nums H.log
  have hA : areaD ys = areaD xs := areaD_len W.len
  have hP : ∀ i : Nat, placeD ys g i = placeD xs g i := fun i => placeD_len W.len g i
  have hfar : ∀ i : Nat, (i : Int) < areaD xs → q ≠ placeD xs g i → sec ys (placeD ys g i) = sec xs (placeD xs g i) := by
    intro i hi hne
    have := placeD_in H.log (g := g) (i := i) (by omega) hi
    rw [hP, W.far _ (by omega) (Ne.symm hne)]
  refine ⟨W.log, H.g1, H.gt, H.t2, by rw [hA]; exact H.len, ?_, ?_, ?_, ?_, ?_, ?_, ?_⟩
  · rw [W.far _ (by omega) (Ne.symm hq)]
    exact H.head
  · by_cases e : q = 1 - g % 2
    · rw [← e, W.here, e]
      exact hq2 e
    · rw [W.far _ (by omega) (Ne.symm e)]
      exact H.other
  · intro i hi
    have hia : (i : Int) < areaD xs := by have := H.len; omega
    rw [hfar i hia (fun e => by have := (hr i hia e).1; omega)]
    exact H.recs i hi
  · intro i hi hia
    rw [hA] at hia
    by_cases e : q = placeD xs g i
    · rw [hP, ← e, W.here]
      exact (hr i hia e).2.1
    · rw [hfar i hia e]
      exact H.next i hi hia
  · intro i hia
    rw [hA] at hia
    by_cases e : q = placeD xs g i
    · rw [hP, ← e, W.here]
      exact (hr i hia e).2.2
    · rw [hfar i hia e]
      exact H.mine i hia
  · intro i hi hi2
    rw [W.len] at hi2
    by_cases e : i = q
    · rw [e, W.here]; exact hf
    · rw [W.far i hi e]; exact H.firsts i hi hi2
  · intro i hi hi2
    rw [W.len] at hi2
    by_cases e : i = q
    · rw [e, W.here]; exact ht
    · rw [W.far i hi e]; exact H.tails i hi hi2
theorem InvD.append {xs ys : List ByteArray} {g top : Int} {h : List ByteArray} (H : InvD xs g top h) (hl : (h.length : Int) < areaD xs) {p : ByteArray} (hp : p.size ≤ 96) {T : ByteArray} (hT : SealT T g (h.length + 1) p) (W : Wrote xs (placeD xs g h.length) T ys) : InvD ys g top (h ++ [p]) := by
  have hn := logB_nums H.log
  have hg := H.g1
  have hgt := H.gt
  have hA : areaD ys = areaD xs := areaD_len W.len
  have hP : ∀ i : Nat, placeD ys g i = placeD xs g i := fun i => placeD_len W.len g i
  have hpl := placeD_in H.log (g := g) (i := h.length) (by omega) hl
  obtain ⟨e1, e2⟩ := tl8_T hT
  have hfar : ∀ i : Nat, (i : Int) < areaD xs → i ≠ h.length → sec ys (placeD ys g i) = sec xs (placeD xs g i) := by
    intro i hi hne
    have := placeD_in H.log (g := g) (i := i) (by omega) hi
    rw [hP, W.far _ (by omega) (fun e => hne (by have := (placeD_inj H.log (by omega) hi (by omega) hl e).2; omega))]
  refine ⟨W.log, hg, hgt, H.t2, by rw [hA]; simp; omega, ?_, ?_, ?_, ?_, ?_, ?_, ?_⟩
  · rw [W.far _ (by omega) (by omega)]
    exact H.head
  · rw [W.far _ (by omega) (by omega)]
    exact H.other
  · intro i hi
    simp only [List.length_append, List.length_singleton] at hi
    by_cases e : i = h.length
    · subst e
      rw [hP, W.here]
      exact ⟨⟨hT.opens, hT.gen, hT.num⟩, by rw [hT.pay]; simp⟩
    · rw [hfar i (by omega) e]
      have := H.recs i (by omega)
      rw [List.getElem_append_left (by omega)]
      exact this
  · intro i hi hia
    simp only [List.length_append, List.length_singleton] at hi
    rw [hA] at hia
    rw [hfar i hia (by omega)]
    exact H.next i (by omega) hia
  · intro i hia
    rw [hA] at hia
    by_cases e : i = h.length
    · subst e
      rw [hP, W.here]
      omega
    · rw [hfar i hia e]
      exact H.mine i hia
  · intro i hi hi2
    rw [W.len] at hi2
    by_cases e : i = placeD xs g h.length
    · rw [e, W.here]; omega
    · rw [W.far i hi e]; exact H.firsts i hi hi2
  · intro i hi hi2
    rw [W.len] at hi2
    by_cases e : i = placeD xs g h.length
    · rw [e, W.here]; omega
    · rw [W.far i hi e]; exact H.tails i hi hi2
theorem InvD.append_any {xs : List ByteArray} {g top : Int} {h : List ByteArray} (H : InvD xs g top h) (hl : (h.length : Int) < areaD xs) {p : ByteArray} (hp : p.size ≤ 96) {k : Int} (k0 : 0 ≤ k) (k1 : k ≤ 128) :
    (InvD (tearL xs (placeD xs g h.length) (sealS g (h.length + 1) p) k) g top h ∧ k ≠ 128) ∨ (InvD (tearL xs (placeD xs g h.length) (sealS g (h.length + 1) p) k) g top (h ++ [p]) ∧ 126 < k) := by
  have hn := logB_nums H.log
  have hg := H.g1
  have hgt := H.gt
  have ht2 := H.t2
  have hpl := placeD_in H.log (g := g) (i := h.length) (by omega) hl
  obtain ⟨hT, hTe⟩ := sealT_is (g := g) (no := (h.length : Int) + 1) (p := p) hg (by omega) (by omega) (by omega) hp
  rw [hTe]
  have W := tear_wrote H.log (q := placeD xs g h.length) (by omega) hpl.2 hT.size k0 k1
  have hX : (sec xs (placeD xs g h.length)).size = 128 := sec_size H.log (by omega) hpl.2
  have hnx := H.next h.length (Nat.le_refl _) hl
  obtain ⟨h1, h2⟩ := over_ends (b := 0) hX hT (k := k.toNat) (by omega) (H.tails _ (by omega) hpl.2) (H.mine _ hl)
  have hcase : over (sec xs (placeD xs g h.length)) (sealT g (h.length + 1) p) k.toNat = sealT g (h.length + 1) p ∧ 126 < k ∨ tl (over (sec xs (placeD xs g h.length)) (sealT g (h.length + 1) p) k.toNat) ≠ stampL g (h.length + 1) ∧ k ≠ 128 := by
    by_cases hk : k = 128
    · subst hk
      exact .inl ⟨over_all hX hT.size, by omega⟩
    · rcases Int.lt_or_le 126 k with d | d
      · rcases over_tl hX hT (by omega) k.toNat (by omega) hnx with e | e
        · exact .inl ⟨e, d⟩
        · exact .inr ⟨e, hk⟩
      · right
        rw [tl_over _ _ hT.size _ (by omega)]
        exact ⟨hnx, hk⟩
  rcases hcase with ⟨e, ek⟩ | ⟨e, ek⟩
  · right
    rw [e] at W
    exact ⟨H.append hl hp hT W, ek⟩
  · left
    refine ⟨H.wrote_far (by omega) hpl.2 W (by omega) h2 (by omega) (fun e => by omega) (fun i hi e2 => ?_), ek⟩
    have := (placeD_inj H.log (by omega) hl (by omega) hi e2).2
    obtain rfl : i = h.length := by omega
    exact ⟨Nat.le_refl _, e, h1⟩
end Go.Proofs.Ytopaddpclipnjaa
namespace Go.Proofs.Ytopaddpclipnjaa
open Go.RowKit
structure NewG (xs : List ByteArray) (g g' : Int) (h : List ByteArray) (l : List ByteArray) (i : Nat) : Prop where
  inv : InvD xs g g' h
  lt : g < g'
  par : g' % 2 = 1 - g % 2
  room : (l.length : Int) ≤ areaD xs
  le : i ≤ l.length
  recs : ∀ (j : Nat) (hj : j < l.length), j < i → recB (sec xs (placeD xs g' j)) g' (j + 1) ∧ openP (sec xs (placeD xs g' j)) = l[j]
  next : ∀ j : Nat, i ≤ j → (j : Int) < areaD xs → tl (sec xs (placeD xs g' j)) ≠ stampL g' (j + 1)
  hdr : tl (sec xs (g' % 2)) ≠ stampL g' 0
theorem tl_gen {x : ByteArray} {g n : Int} (hg : 0 ≤ g ∧ g < 256) (h : tl8 x < g) : tl x ≠ stampL g n := by
  intro e
  have := tl8_of e hg
  omega
theorem place_apart {xs : List ByteArray} (hl : logB xs = true) {g g' : Int} {i j : Nat} (hp : g' % 2 = 1 - g % 2) (hi : (i : Int) < areaD xs) (hj : (j : Int) < areaD xs) : placeD xs g' i ≠ placeD xs g j := by
  intro e
  have := (placeD_inj hl (by omega) hi (by omega) hj e).1
  omega
theorem NewG.old {xs ys : List ByteArray} {g g' : Int} {h l : List ByteArray} {i : Nat} (N : NewG xs g g' h l i) (hi : (i : Int) < areaD xs) {p : ByteArray} {T : ByteArray} (hT : SealT T g' (i + 1) p) {k : Nat} (hk : k ≤ 128) (W : Wrote xs (placeD xs g' i) (over (sec xs (placeD xs g' i)) T k) ys) : InvD ys g g' h := by
  have hn := logB_nums N.inv.log
  have hg := N.inv.g1
  have hpl := placeD_in N.inv.log (g := g') (i := i) (by omega) hi
  have hX : (sec xs (placeD xs g' i)).size = 128 := sec_size N.inv.log (by omega) hpl.2
  obtain ⟨h1, h2⟩ := over_ends (b := 0) hX hT hk (N.inv.tails _ (by omega) hpl.2) (N.inv.firsts _ (by omega) hpl.2)
  exact N.inv.wrote_far (by omega) hpl.2 W h1 h2 (by omega) (fun e => by omega) (fun j hj e => absurd e (place_apart N.inv.log N.par hi hj))
theorem NewG.step {xs ys : List ByteArray} {g g' : Int} {h l : List ByteArray} {i : Nat} (N : NewG xs g g' h l i) (hi : i < l.length) {T : ByteArray} (hT : SealT T g' (i + 1) l[i]) (W : Wrote xs (placeD xs g' i) T ys) : NewG ys g g' h l (i + 1) := by
  have hn := logB_nums N.inv.log
  have hg := N.inv.g1
  have hr := N.room
  have hia : (i : Int) < areaD xs := by omega
  have hpl := placeD_in N.inv.log (g := g') (i := i) (by omega) hia
  have hX : (sec xs (placeD xs g' i)).size = 128 := sec_size N.inv.log (by omega) hpl.2
  have hA : areaD ys = areaD xs := areaD_len W.len
  have hP : ∀ j : Nat, placeD ys g' j = placeD xs g' j := fun j => placeD_len W.len g' j
  have hfar : ∀ j : Nat, (j : Int) < areaD xs → j ≠ i → sec ys (placeD ys g' j) = sec xs (placeD xs g' j) := by
    intro j hj hne
    have := placeD_in N.inv.log (g := g') (i := j) (by omega) hj
    rw [hP, W.far _ (by omega) (fun e => hne (by have := (placeD_inj N.inv.log (by omega) hj (by omega) hia e).2; omega))]
  have hold : InvD ys g g' h := by
    refine N.old hia hT (k := 128) (by omega) ?_
    rw [over_all hX hT.size]
    exact W
  refine ⟨hold, N.lt, N.par, by rw [hA]; exact hr, by omega, ?_, ?_, ?_⟩
  · intro j hj hji
    by_cases e : j = i
    · subst e
      rw [hP, W.here]
      exact ⟨⟨hT.opens, hT.gen, hT.num⟩, hT.pay⟩
    · rw [hfar j (by omega) e]
      exact N.recs j hj (by omega)
  · intro j hj hja
    rw [hA] at hja
    rw [hfar j hja (by omega)]
    exact N.next j (by omega) hja
  · rw [W.far _ (by omega) (by omega)]
    exact N.hdr
theorem NewG.done {xs ys : List ByteArray} {g g' : Int} {h l : List ByteArray} (N : NewG xs g g' h l l.length) {T : ByteArray} (hT : SealT T g' 0 ⟨#[]⟩) (W : Wrote xs (g' % 2) T ys) : InvD ys g' g' l := by
  have hn := logB_nums N.inv.log
  have hg := N.inv.g1
  have hlt := N.lt
  have hpar := N.par
  have hA : areaD ys = areaD xs := areaD_len W.len
  obtain ⟨e1, e2⟩ := tl8_T hT
  have hfar : ∀ j : Nat, (j : Int) < areaD xs → sec ys (placeD ys g' j) = sec xs (placeD xs g' j) := by
    intro j hj
    have := placeD_in N.inv.log (g := g') (i := j) (by omega) hj
    rw [placeD_len W.len, W.far _ (by omega) (by omega)]
  refine ⟨W.log, by omega, by omega, N.inv.t2, by rw [hA]; exact N.room, ?_, ?_, ?_, ?_, ?_, ?_, ?_⟩
  · rw [W.here]
    unfold hdrG
    rw [if_pos ⟨hT.opens, by rw [hT.gen], hT.num, hT.pay⟩]
    exact hT.gen
  · rw [W.far _ (by omega) (by omega), show 1 - g' % 2 = g % 2 by omega, N.inv.head]
    exact hlt
  · intro j hj
    have hr := N.room
    rw [hfar j (by omega)]
    exact N.recs j hj hj
  · intro j hj hja
    rw [hA] at hja
    rw [hfar j hja]
    exact N.next j hj hja
  · intro j hja
    rw [hA] at hja
    rw [hfar j hja]
    have := placeD_in N.inv.log (g := g') (i := j) (by omega) hja
    exact N.inv.firsts _ (by omega) this.2
  · intro i hi hi2
    rw [W.len] at hi2
    by_cases e : i = g' % 2
    · rw [e, W.here]; omega
    · rw [W.far i hi e]; exact N.inv.firsts i hi hi2
  · intro i hi hi2
    rw [W.len] at hi2
    by_cases e : i = g' % 2
    · rw [e, W.here]; omega
    · rw [W.far i hi e]; exact N.inv.tails i hi hi2
theorem zero_at8 (i : Nat) : at8 z128 i = 0 := by
  unfold at8
  rw [show z128.data.toList = List.replicate 128 0 from rfl, List.getD_eq_getElem?_getD, List.getElem?_replicate]
  split <;> rfl
theorem inv_new {n : Int} (h0 : 10 ≤ n) (h1 : n ≤ 130) (h2 : n % 2 = 0) : InvD (tearL (newL n) 1 (sealS 1 0 ⟨#[]⟩) 128) 1 1 [] := by
  have hl : (newL n).length = n.toNat := by unfold newL; rw [if_pos ⟨h0, h1⟩, List.length_replicate]
  have hz : ∀ i : Int, 0 ≤ i → i < n → sec (newL n) i = z128 := by
    intro i a b
    obtain ⟨j, rfl⟩ : ∃ j : Nat, i = j := ⟨i.toNat, by omega⟩
    rw [sec_get (by omega)]
    have : newL n = List.replicate n.toNat z128 := by unfold newL; rw [if_pos ⟨h0, h1⟩]
    simp only [this, List.getElem_replicate]
  have hsz : z128.size = 128 := by
    rw [← len_data]
    exact List.length_replicate
  have hlog : logB (newL n) = true := by
    unfold logB rightD
    have ha : (newL n).any badSize = false := by
      rw [List.any_eq_false]
      intro x hx
      have : x = z128 := by unfold newL at hx; rw [if_pos ⟨h0, h1⟩] at hx; exact List.eq_of_mem_replicate hx
      simp [badSize, this, hsz]
    rw [ha, hl]
    simp
    omega
  have hn := logB_nums hlog
  obtain ⟨hT, hTe⟩ := sealT_is (g := 1) (no := 0) (p := ⟨#[]⟩) (by omega) (by omega) (by omega) (by omega) (by decide)
  rw [hTe]
  have W := tear_wrote hlog (q := 1) (by omega) (by omega) hT.size (k := 128) (by omega) (by omega)
  rw [hz 1 (by omega) (by omega), show (128 : Int).toNat = 128 from rfl, over_all hsz hT.size] at W
  obtain ⟨e1, e2⟩ := tl8_T hT
  have hA := areaD_len W.len
  have hzn : tl8 z128 = 0 := zero_at8 126
  have hfar : ∀ i : Int, 0 ≤ i → i < n → i ≠ 1 → sec (tearL (newL n) 1 (sealT 1 0 ⟨#[]⟩) 128) i = z128 := fun i a b c => by rw [W.far i a c, hz i a b]
  have hpl : ∀ i : Nat, (i : Int) < areaD (newL n) → sec (tearL (newL n) 1 (sealT 1 0 ⟨#[]⟩) 128) (placeD (tearL (newL n) 1 (sealT 1 0 ⟨#[]⟩) 128) 1 i) = z128 := by
    intro i hi
    have := placeD_in hlog (g := 1) (i := i) (by omega) hi
    rw [placeD_len W.len]
    exact hfar _ (by omega) (by omega) (by omega)
  refine ⟨W.log, by omega, by omega, by omega, by rw [hA]; simp; omega, ?_, ?_, ?_, ?_, ?_, ?_, ?_⟩
  · show hdrG (sec _ 1) 1 = 1
    rw [W.here]
    unfold hdrG
    rw [if_pos ⟨hT.opens, by rw [hT.gen]; rfl, hT.num, hT.pay⟩]
    exact hT.gen
  · show hdrG (sec _ 0) 0 < 1
    rw [hfar 0 (by omega) (by omega) (by omega)]
    unfold hdrG
    split
    · rename_i hc
      have h3 := openG_pos hc.1
      rw [zero_at8] at h3
      omega
    · omega
  · intro i hi
    simp at hi
  · intro i _ hi
    rw [hA] at hi
    rw [hpl i hi]
    exact tl_gen (by omega) (by omega)
  · intro i hi
    rw [hA] at hi
    rw [hpl i hi, zero_at8]
    omega
  · intro i hi hi2
    by_cases e : i = 1
    · rw [e, W.here]; omega
    · rw [hfar i hi (by rw [W.len] at hi2; omega) e, zero_at8]; omega
  · intro i hi hi2
    by_cases e : i = 1
    · rw [e, W.here]; omega
    · rw [hfar i hi (by rw [W.len] at hi2; omega) e, zero_at8, hzn]; omega
end Go.Proofs.Ytopaddpclipnjaa
namespace Go.Proofs.Ytopaddpclipnjaa
open Go.RowKit
structure Has (s : Sto) (h : List ByteArray) : Prop where
  inv : InvD s.xs s.gen s.top h
  used : s.used = h.length
  up : s.down = false
theorem Has.ok {s : Sto} {h : List ByteArray} (H : Has s h) : s.okB = true := by
  have i := H.inv
  unfold Sto.okB inB
  rw [i.log, H.used]
  have h1 := i.g1
  have h2 := i.gt
  have h3 := i.t2
  have h4 := i.len
  simp
  omega
theorem mayS_go {s : Sto} (hs : s.okB = true) (hd : s.down = false) {l : List ByteArray} {fs : List Flt} (hl : ∀ p ∈ l, p.size ≤ 96) (hf : fs.all fltB = true) : mayS s l fs = 0 := by
  unfold mayS
  have h1 : (fs.any fun f => !fltB f) = false := by
    rw [List.any_eq_false]
    intro f hm
    have := List.all_eq_true.1 hf f hm
    simp [this]
  have h2 : (l.any fun p => decide (96 < p.size)) = false := by
    rw [List.any_eq_false]
    intro p hm
    have := hl p hm
    simp
    omega
  rw [hs, h1, h2, hd]
  rfl
theorem Has.append {s : Sto} {h : List ByteArray} (H : Has s h) {p : ByteArray} (hp : p.size ≤ 96) {f : Flt} (hf : fltB f = true) :
    (appendS s p f = (Sto.zero, 5) ∧ (h.length : Int) = areaD s.xs) ∨
    ((h.length : Int) < areaD s.xs ∧ appendS s p f = appS s p f ∧
      ((f.kind = 1 ∧ appS s p f = (s, 8)) ∨
       (f.kind = 2 ∧ ∃ ys, appS s p f = ({ s with xs := ys, down := true }, 9) ∧ ((InvD ys s.gen s.top h) ∨ (InvD ys s.gen s.top (h ++ [p]) ∧ 126 < f.k))) ∨
       (f.kind = 0 ∧ ∃ ys, appS s p f = ({ s with xs := ys, used := s.used + 1 }, 0) ∧ InvD ys s.gen s.top (h ++ [p])))) := by
  have hfl : 0 ≤ f.kind ∧ f.kind ≤ 2 ∧ 0 ≤ f.k ∧ f.k ≤ 128 := by
    unfold fltB at hf
    simp only [Bool.and_eq_true, decide_eq_true_eq] at hf
    exact ⟨hf.1.1.1, hf.1.1.2, hf.1.2, hf.2⟩
  have hm : mayS s [p] [f] = 0 := mayS_go H.ok H.up (by simpa using hp) (by simpa using hf)
  have hu := H.used
  have hlen := H.inv.len
  unfold appendS
  rw [if_pos hm]
  by_cases hA : s.used = areaD s.xs
  · left
    rw [if_pos hA]
    exact ⟨rfl, by omega⟩
  · right
    rw [if_neg hA]
    refine ⟨by omega, rfl, ?_⟩
    unfold appS
    by_cases k1 : f.kind = 1
    · rw [if_pos k1]
      exact .inl ⟨k1, rfl⟩
    · rw [if_neg k1]
      by_cases k2 : f.kind = 2
      · rw [if_pos k2, hu]
        right; left
        refine ⟨k2, _, rfl, ?_⟩
        rcases H.inv.append_any (by omega) hp hfl.2.2.1 hfl.2.2.2 with ⟨h1, _⟩ | ⟨h1, h2⟩
        · exact .inl h1
        · exact .inr ⟨h1, h2⟩
      · rw [if_neg k2]
        right; right
        refine ⟨by omega, _, rfl, ?_⟩
        rw [hu]
        rcases H.inv.append_any (by omega) hp (k := 128) (by omega) (by omega) with ⟨_, h1⟩ | ⟨h1, _⟩
        · exact absurd rfl h1
        · exact h1
theorem nextG_facts (s : Sto) : s.top < nextG s ∧ nextG s ≤ s.top + 2 ∧ nextG s % 2 = 1 - s.gen % 2 := by
  unfold nextG
  split <;> omega
def new0 (n : Int) : Sto := ⟨tearL (newL n) 1 (sealS 1 0 ⟨#[]⟩) 128, 1, 0, 1, false⟩
theorem has_new {n : Int} (h0 : 10 ≤ n) (h1 : n ≤ 130) (h2 : n % 2 = 0) : Has (new0 n) [] := ⟨inv_new h0 h1 h2, rfl, rfl⟩
theorem InvD.has {xs : List ByteArray} {g top : Int} {h : List ByteArray} (H : InvD xs g top h) {u : Int} (hu : u = h.length) : Has ⟨xs, g, u, top, false⟩ h := ⟨H, hu, rfl⟩
end Go.Proofs.Ytopaddpclipnjaa
namespace Go.Proofs.YtopaddpclipnjaaQ.P
open Go.RowKit Go.Proofs.YtopaddpclipnjaaW.PrintWords Go.Proofs.YtopaddpclipnjaaW.PrintMore Go.Proofs.Ytopaddpclipnjaa
def goodN (n : Int) : Prop := 10 ≤ n ∧ n ≤ 130 ∧ n % 2 = 0
instance (n : Int) : Decidable (goodN n) := by unfold goodN; infer_instance
theorem new_f (n : Int) {k : Nat} (hk : 1 < k) : store_New.f k n = stoOut (if goodN n then (new0 n, 0) else (Sto.zero, 2)) := by
  obtain ⟨k, rfl⟩ : ∃ m, k = m + 1 := ⟨k - 1, by omega⟩
  unfold store_New.f sector_New.f newE
  rw [Option.bind_some]
  simp only
  by_cases h : 10 ≤ n ∧ n ≤ 130
  · rw [if_pos h, if_pos rfl]
    simp only [store_New.j0]
    rw [show Int.tmod n 2 = n % 2 from Int.tmod_eq_emod_of_nonneg (by omega)]
    by_cases h2 : n % 2 = 0
    · rw [if_neg (by simp [h2]), if_pos (show goodN n from ⟨h.1, h.2, h2⟩)]
      rfl
    · rw [if_pos (by simp [h2]), if_neg (fun hh : goodN n => h2 hh.2.2)]
      rfl
  · rw [if_neg h, if_neg (by omega), if_neg (fun hh : goodN n => h ⟨hh.1, hh.2.1⟩)]
    simp only [store_New.j0]
    rfl
theorem app_f (s : Sto) (p : ByteArray) (f : Flt) : store_Append.f s.xs s.gen s.used s.top s.down p f.kind f.k = stoOut (appendS s p f) := rfl
theorem alive_f {k : Nat} (hk : 300 < k) : foghornlaw04_alive.f k = some true := by
  unfold foghornlaw04_alive.f
  have h0 : Has (new0 10) [] := has_new (by omega) (by omega) (by omega)
  rw [new_f 10 (by omega), if_pos (by decide)]
  unfold stoOut
  rw [Option.bind_some]
  simp only
  have ha := app_f (new0 10) ⟨#[97]⟩ ⟨0, 0⟩
  rcases h0.append (p := ⟨#[97]⟩) (f := ⟨0, 0⟩) (by decide) (by decide) with ⟨_, e⟩ | ⟨_, e, c⟩
  · have := (logB_nums h0.inv.log).2.2.2.2.2.2.2.1
    simp at e
    omega
  · rw [e] at ha
    rcases c with ⟨k1, _⟩ | ⟨k1, _⟩ | ⟨_, ys, ey, I⟩
    · exact absurd k1 (by decide)
    · exact absurd k1 (by decide)
    · rw [ey] at ha
      rw [show store_Append.f (new0 10).xs (new0 10).gen (new0 10).used (new0 10).top (new0 10).down ⟨#[97]⟩ 0 0 = _ from ha]
      unfold stoOut
      rw [Option.bind_some]
      simp only
      have h1 : Has ⟨ys, 1, 0 + 1, 1, false⟩ ([] ++ [⟨#[97]⟩]) := I.has rfl
      have hb := app_f ⟨ys, 1, 0 + 1, 1, false⟩ ⟨#[98]⟩ ⟨2, 60⟩
      rcases h1.append (p := ⟨#[98]⟩) (f := ⟨2, 60⟩) (by decide) (by decide) with ⟨_, e⟩ | ⟨_, e, c⟩
      · have := (logB_nums h1.inv.log).2.2.2.2.2.2.2.1
        simp at e this
        omega
      · rw [e] at hb
        rcases c with ⟨k1, _⟩ | ⟨_, zs, ez, I2⟩ | ⟨k1, _⟩
        · exact absurd k1 (by decide)
        · rw [ez] at hb
          rw [show store_Append.f ys (new0 10).gen ((new0 10).used + 1) (new0 10).top (new0 10).down ⟨#[98]⟩ 2 60 = _ from hb]
          unfold stoOut
          rw [Option.bind_some]
          simp only
          rcases I2 with I2 | ⟨_, h⟩
          · have hl := (logB_nums I2.log).2.1
            rw [boot_f zs (by omega) (by omega), I2.boot]
            unfold bootOut
            rw [Option.bind_some]
            simp
            show ((⟨#[97]⟩ : ByteArray)).toList = _
            rw [ByteArray.toList_eq]
          · exact absurd h (by decide)
        · exact absurd k1 (by decide)
end Go.Proofs.YtopaddpclipnjaaQ.P
namespace Go.Proofs.YtopaddpclipnjaaQ.P
open Go.RowKit Go.Proofs.YtopaddpclipnjaaW.PrintWords Go.Proofs.Ytopaddpclipnjaa
theorem alive_only {k : Nat} {r : Bool} (h : foghornlaw04_alive.f k = some r) : r = true := by
  have hm : ∀ d, foghornlaw04_alive.f (k + d) = some r := by
    intro d
    induction d with
    | zero => exact h
    | succ d ih => exact (foghornlaw04_alive.mono (k + d)) _ ih
  have h1 := hm 301
  rw [alive_f (by omega)] at h1
  exact (Option.some.inj h1).symm
theorem foghornlaw04_alive.calls (k : Nat) (r : Bool) (w : World) (h : foghornlaw04_alive.f k = some r) :
    Calls Try.prog 15 #[] w fun e w' => e = .returned (.bool r) ∧ Below w.heap.size w w' := foghornlaw04_alive.callsT k r w h (alive_only h)
end Go.Proofs.YtopaddpclipnjaaQ.P
namespace Go.Proofs.YtopaddpclipnjaaQ.P
open Go.RowKit Go.Proofs.YtopaddpclipnjaaW.PrintWords Go.Proofs.YtopaddpclipnjaaW.PrintLast Go.Proofs.YtopaddpclipnjaaW.PrintMore
attribute [local go_sem] max2_int min2_int max_two min_two max_three min_three max_four min_four
def foghornref04_Fault.f (a0_0 : Int) (a0_1 : Int) : Option (Bool) := if a0_0 ≥ 0 then (if a0_0 ≤ 2 then (if a0_1 ≥ 0 then (some (decide (a0_1 ≤ 128))) else (some false)) else (some false)) else (some false)
set_option maxHeartbeats 8000000 in
set_option maxRecDepth 100000 in
theorem foghornref04_Fault.calls (a0_0 : Int) (a0_1 : Int) (r : Bool) (w : World) (h : foghornref04_Fault.f a0_0 a0_1 = some r) :
  Calls Try.prog 23 #[.agg #[.int .i64 a0_0, .int .i64 a0_1]] w fun e w' => e = .returned (.bool r) ∧ Below w.heap.size w w' := by
 have hu45 := Try.underlying45
 have HB := aA (Below.refl w.heap.size w)
 have H : (if a0_0 ≥ 0 then (if a0_0 ≤ 2 then (if a0_1 ≥ 0 then (some (decide (a0_1 ≤ 128))) else (some false)) else (some false)) else (some false)) = some r := h
 clear h
 by_cases c2 : a0_0 ≥ 0
 ·rw [if_pos c2] at H
  have c2b0 : decide (0 ≤ a0_0) = true := decide_eq_true c2
  clear c2
  by_cases c3 : a0_0 ≤ 2
  ·rw [if_pos c3] at H
   have c3b0 : decide (a0_0 ≤ 2) = true := decide_eq_true c3
   clear c3
   by_cases c4 : a0_1 ≥ 0
   ·rw [if_pos c4] at H
    have c4b0 : decide (0 ≤ a0_1) = true := decide_eq_true c4
    clear c4
    obtain rfl := Option.some.inj H
    go_enter Try.func23, Try.ntmps23
    go_wp2_with (first | ((with_reducible refine gate_dst (N := 1) rfl ?_); refine box_event ?hg (N := 1) ?hd (cs := #[.int .i64 a0_0, .int .i64 a0_1]) (t := 45) ?hr ?_; (case hd => rfl); (case hg => rfl); (case hr => first | (go_simp; done) | (go_simp; rfl)); intro gb377 hg w5 hbox hb; have n0_ := aA (below_step mB hb); have n1_ := aA (hbox); have n2_ := aA ((bZ hg mB)); have n3_ := aA ((bZ hg mB)); clear HB; have HB := n0_; have BK377 := n1_; have GW377 := n2_; have GE377 := n3_; clear n0_ n1_ n2_ n3_ hb hbox hg; obtain ⟨hcz6_0, hcz6_1⟩ := bC2 BK377.out; obtain ⟨hfz6_0, hfz6_1⟩ := bF2 BK377.out))
    go_ret
    exact ⟨by first | rfl | (simp [errW_none, errW_some] <;> rfl) | (simp [*, errW_none, errW_some] <;> rfl), by repeat (first | (with_reducible first | exact HB.out | apply below_alloc | apply pw_below_drewN | apply below_drew1 | refine below_set ?_ GE377.out) | exact HB.out)⟩
   ·rw [if_neg c4] at H
    have c4b0 : decide (0 ≤ a0_1) = false := decide_eq_false c4
    clear c4
    obtain rfl := Option.some.inj H
    go_enter Try.func23, Try.ntmps23
    go_wp2_with (first | ((with_reducible refine gate_dst (N := 1) rfl ?_); refine box_event ?hg (N := 1) ?hd (cs := #[.int .i64 a0_0, .int .i64 a0_1]) (t := 45) ?hr ?_; (case hd => rfl); (case hg => rfl); (case hr => first | (go_simp; done) | (go_simp; rfl)); intro gb377 hg w7 hbox hb; have n0_ := aA (below_step mB hb); have n1_ := aA (hbox); have n2_ := aA ((bZ hg mB)); have n3_ := aA ((bZ hg mB)); clear HB; have HB := n0_; have BK377 := n1_; have GW377 := n2_; have GE377 := n3_; clear n0_ n1_ n2_ n3_ hb hbox hg; obtain ⟨hcz8_0, hcz8_1⟩ := bC2 BK377.out; obtain ⟨hfz8_0, hfz8_1⟩ := bF2 BK377.out))
    go_ret
    exact ⟨by first | rfl | (simp [errW_none, errW_some] <;> rfl) | (simp [*, errW_none, errW_some] <;> rfl), by repeat (first | (with_reducible first | exact HB.out | apply below_alloc | apply pw_below_drewN | apply below_drew1 | refine below_set ?_ GE377.out) | exact HB.out)⟩
  ·rw [if_neg c3] at H
   have c3b0 : decide (a0_0 ≤ 2) = false := decide_eq_false c3
   clear c3
   obtain rfl := Option.some.inj H
   go_enter Try.func23, Try.ntmps23
   go_wp2_with (first | ((with_reducible refine gate_dst (N := 1) rfl ?_); refine box_event ?hg (N := 1) ?hd (cs := #[.int .i64 a0_0, .int .i64 a0_1]) (t := 45) ?hr ?_; (case hd => rfl); (case hg => rfl); (case hr => first | (go_simp; done) | (go_simp; rfl)); intro gb377 hg w9 hbox hb; have n0_ := aA (below_step mB hb); have n1_ := aA (hbox); have n2_ := aA ((bZ hg mB)); have n3_ := aA ((bZ hg mB)); clear HB; have HB := n0_; have BK377 := n1_; have GW377 := n2_; have GE377 := n3_; clear n0_ n1_ n2_ n3_ hb hbox hg; obtain ⟨hcz10_0, hcz10_1⟩ := bC2 BK377.out; obtain ⟨hfz10_0, hfz10_1⟩ := bF2 BK377.out))
   go_ret
   exact ⟨by first | rfl | (simp [errW_none, errW_some] <;> rfl) | (simp [*, errW_none, errW_some] <;> rfl), by repeat (first | (with_reducible first | exact HB.out | apply below_alloc | apply pw_below_drewN | apply below_drew1 | refine below_set ?_ GE377.out) | exact HB.out)⟩
 ·rw [if_neg c2] at H
  have c2b0 : decide (0 ≤ a0_0) = false := decide_eq_false c2
  clear c2
  obtain rfl := Option.some.inj H
  go_enter Try.func23, Try.ntmps23
  go_wp2_with (first | ((with_reducible refine gate_dst (N := 1) rfl ?_); refine box_event ?hg (N := 1) ?hd (cs := #[.int .i64 a0_0, .int .i64 a0_1]) (t := 45) ?hr ?_; (case hd => rfl); (case hg => rfl); (case hr => first | (go_simp; done) | (go_simp; rfl)); intro gb377 hg w11 hbox hb; have n0_ := aA (below_step mB hb); have n1_ := aA (hbox); have n2_ := aA ((bZ hg mB)); have n3_ := aA ((bZ hg mB)); clear HB; have HB := n0_; have BK377 := n1_; have GW377 := n2_; have GE377 := n3_; clear n0_ n1_ n2_ n3_ hb hbox hg; obtain ⟨hcz12_0, hcz12_1⟩ := bC2 BK377.out; obtain ⟨hfz12_0, hfz12_1⟩ := bF2 BK377.out))
  go_ret
  exact ⟨by first | rfl | (simp [errW_none, errW_some] <;> rfl) | (simp [*, errW_none, errW_some] <;> rfl), by repeat (first | (with_reducible first | exact HB.out | apply below_alloc | apply pw_below_drewN | apply below_drew1 | refine below_set ?_ GE377.out) | exact HB.out)⟩
end Go.Proofs.YtopaddpclipnjaaQ.P
namespace Go.Proofs.YtopaddpclipnjaaQ.P
open Go.RowKit Go.Proofs.YtopaddpclipnjaaW.PrintWords Go.Proofs.YtopaddpclipnjaaW.PrintLast Go.Proofs.YtopaddpclipnjaaW.PrintMore
attribute [local go_sem] max2_int min2_int max_two min_two max_three min_three max_four min_four
def foghornref02_Tear.l0 : Nat → Int → ByteArray → Int → List ByteArray → List ByteArray → Int → Int → Option (List ByteArray)
 | 0, _, _, _, _, _, _, _ => none
 | k + 1, x1, x2, x3, x9, x14, x15, x16 => if x16 < x15 then (if 0 ≤ x16 then (if x16 < (x14.length : Int) then (if x16 = x1 then (if 0 ≤ x3 then (if x3 ≤ (x2.size : Int) then (if x3 ≤ ((rdOf ByteArray.empty x14 x16).size : Int) then (if (x2.extract 0 (x3 : Int).toNat).size + ((rdOf ByteArray.empty x14 x16).extract (x3 : Int).toNat (rdOf ByteArray.empty x14 x16).size).size ≤ 9223372036854775807 then (if x9.length < 8796093022208 then (foghornref02_Tear.l0 k x1 x2 x3 (x9 ++ [(x2.extract 0 (x3 : Int).toNat) ++ ((rdOf ByteArray.empty x14 x16).extract (x3 : Int).toNat (rdOf ByteArray.empty x14 x16).size)]) x14 x15 (wrap64 (x16 + 1))) else (none)) else (none)) else (none)) else (none)) else (none)) else (if x9.length < 8796093022208 then (foghornref02_Tear.l0 k x1 x2 x3 (x9 ++ [rdOf ByteArray.empty x14 x16]) x14 x15 (wrap64 (x16 + 1))) else (none))) else (none)) else (none)) else (some x9)
def foghornref02_Tear.f (k : Nat) (l0_0 : List ByteArray) (a1 : Int) (a2 : ByteArray) (a3 : Int) : Option (List ByteArray) := foghornref02_Tear.l0 k a1 a2 a3 (([] : List ByteArray)) l0_0 (l0_0.length : Int) 0
theorem foghornref02_Tear.mono_l : ∀ k, (∀ y0 y1 y2 y3 y4 y5 y6, LeO (foghornref02_Tear.l0 k y0 y1 y2 y3 y4 y5 y6) (foghornref02_Tear.l0 (k + 1) y0 y1 y2 y3 y4 y5 y6))
 | 0 => fun _ _ _ _ _ _ _ r h => by simp [foghornref02_Tear.l0] at h
 | k + 1 => by
  have ih0 := foghornref02_Tear.mono_l k
  ·intro y0 y1 y2 y3 y4 y5 y6
   unfold foghornref02_Tear.l0
   repeat' first
   | (with_reducible exact ih0 _ _ _ _ _ _ _)
   | (with_reducible exact LeO.refl _)
   | (with_reducible exact LeO.none _)
   | (with_reducible refine LeO.ite ?_ ?_)
   | (with_reducible refine LeO.bind ?_ (fun _ => ?_))
   | exact ih0 _ _ _ _ _ _ _
   | exact LeO.none _
   | refine LeO.ite ?_ ?_
   | refine LeO.bind ?_ (fun _ => ?_)
theorem foghornref02_Tear.mono : ∀ a0 a1 a2 a3 k, LeO (foghornref02_Tear.f k a0 a1 a2 a3) (foghornref02_Tear.f (k + 1) a0 a1 a2 a3) := by
 intro a0 a1 a2 a3 k
 have ih0 := foghornref02_Tear.mono_l k
 unfold foghornref02_Tear.f
 repeat' first
   | (with_reducible exact ih0 _ _ _ _ _ _ _)
   | (with_reducible exact LeO.refl _)
   | (with_reducible exact LeO.none _)
   | (with_reducible refine LeO.ite ?_ ?_)
   | (with_reducible refine LeO.bind ?_ (fun _ => ?_))
   | exact ih0 _ _ _ _ _ _ _
   | exact LeO.none _
   | refine LeO.ite ?_ ?_
   | refine LeO.bind ?_ (fun _ => ?_)
set_option maxHeartbeats 8000000 in
set_option maxRecDepth 100000 in
theorem foghornref02_Tear.calls (k : Nat) (A0_0 : Option Addr) (c0_0 : Nat) (l0_0 : List ByteArray) (a1 : Int) (a2 : ByteArray) (a3 : Int) (r : List ByteArray) (w : World) (hr0_0 : Kd.C Kd.string w A0_0 l0_0.length l0_0) (hc0_0 : l0_0.length ≤ c0_0) (h : foghornref02_Tear.f k l0_0 a1 a2 a3 = some r) :
  Calls Try.prog 61 #[.agg #[.slice A0_0 l0_0.length c0_0], .int .i64 a1, .string a2, .int .i64 a3] w fun e w' => ∃ v0_ : Value, e = .returned (.agg #[v0_]) ∧ Kd.R Kd.string 9 w' w.heap.size (fun _ => True) v0_ r ∧ Below w.heap.size w w' := by
 have hu24 := Try.underlying24
 have HR0_0 := aA hr0_0
 have HC0_0 := aA hc0_0
 clear hr0_0 hc0_0
 have HB := aA (Below.refl w.heap.size w)
 have H : (foghornref02_Tear.l0 k a1 a2 a3 (([] : List ByteArray)) l0_0 (l0_0.length : Int) 0) = some r := h
 clear h
 obtain ⟨y213, hy213⟩ : ∃ y_ : List ByteArray, y_ = (([] : List ByteArray)) := ⟨_, rfl⟩
 replace H : (foghornref02_Tear.l0 k a1 a2 a3 y213 l0_0 (l0_0.length : Int) 0) = some r := by first | (rw [hy213]; with_reducible exact H) | (have H2_ := (Option.bind_some _ _).symm.trans H; rw [hy213]; with_reducible exact H2_) | (have H2_ := (Option.bind_some _ _).symm.trans H; with_reducible exact H2_) | with_reducible exact H | (rw [hy213]; exact H) | exact H
 have Ny213 := aA hy213
 clear hy213
 have H' := aA H
 clear H
 go_enter Try.func61, Try.ntmps61
 go_wp2_with (first | ((with_reducible refine gate_dst (N := 4) rfl ?_); refine box_event ?hg (N := 4) ?hd (cs := #[.slice A0_0 l0_0.length c0_0]) (t := 24) ?hr ?_; (case hd => rfl); (case hg => rfl); (case hr => first | (go_simp; done) | (go_simp; rfl)); intro gb211 hg w5 hbox hb; have n0_ := aA (below_step mB hb); have n1_ := aA (hbox); have n2_ := aA ((bZ hg mB)); have n3_ := aA ((bZ hg mB)); clear HB; have HB := n0_; have BK211 := n1_; have GW211 := n2_; have GE211 := n3_; clear n0_ n1_ n2_ n3_ hb hbox hg) | ((with_reducible refine gate_dst (N := 8) rfl ?_); refine box_event ?hg (N := 8) ?hd (cs := #[.slice none 0 0]) (t := 24) ?hr ?_; (case hd => rfl); (case hg => rfl); (case hr => first | (go_simp; done) | (go_simp; rfl)); intro gb212 hg w6 hbox hb; have n0_ := aA (bB BK211.out hb); have n1_ := aA (below_step (mD1 GE211.out) hb); have n2_ := aA (hbox); have n3_ := aA ((bZ hg (mD1 GE211.out))); have n4_ := aA ((bZ hg (mD1 GE211.out))); have n5_ := aA ((bL hg BK211.out)); have n6_ := aA ((bG hg BK211.out)); clear BK211 HB; have BK211 := n0_; have HB := n1_; have BK212 := n2_; have GW212 := n3_; have GE212 := n4_; have NB211_212 := n5_; have NB212_211 := n6_; clear n0_ n1_ n2_ n3_ n4_ n5_ n6_ hb hbox hg) | ((with_reducible refine gate_dst (N := 12) rfl ?_); refine Kd.R_lit Kd.string _ 9 ?hg (N := 12) ?hd (xs := ([] : List ByteArray)) (inner := []) (ok := fun _ => True) (okp := fun _ => True) ?hr ?hp (fun _ hk => hk) trivial (Below.refl _ _) (Nat.le_refl _) (by simp) ?_; (case hd => rfl); (case hg => rfl); (case hr => first | (go_simp; done) | (go_simp; rfl)); (case hp => exact (Reps.none _ _)); intro v214 w7 ho8 hb hg_ hnew_; clear hg_ hnew_; (first | rw [← Ny213.out] at ho8 | (simp only [Int.reduceToNat] at ho8; rw [← Ny213.out] at ho8)); have n0_ := aA (Kd.R_lower ho8 (below_size (mD2 GE211.out GE212.out))); have n1_ := aA (bB BK211.out hb); have n2_ := aA (bB BK212.out hb); have n3_ := aA (below_step (mD2 GE211.out GE212.out) hb); clear BK211 BK212 HB; have HO215 := n0_; have BK211 := n1_; have BK212 := n2_; have HB := n3_; clear n0_ n1_ n2_ n3_ hb ho8; have hnb9 := NB211_212.out; have hnc9 := NB212_211.out; have hcz10_0 : w7.cell? ⟨gb211, 0, none⟩ = some (.slice A0_0 l0_0.length c0_0) := (blk_cell BK211.out 0).trans rfl; have hfz10_0 := blk_frozen BK211.out 0))
 repeat (go_quiet (first | ((with_reducible refine gate_dst (N := 4) rfl ?_); refine box_event ?hg (N := 4) ?hd (cs := #[.slice A0_0 l0_0.length c0_0]) (t := 24) ?hr ?_; (case hd => rfl); (case hg => rfl); (case hr => first | (go_simp; done) | (go_simp; rfl)); intro gb211 hg w5 hbox hb; have n0_ := aA (below_step mB hb); have n1_ := aA (hbox); have n2_ := aA ((bZ hg mB)); have n3_ := aA ((bZ hg mB)); clear HB; have HB := n0_; have BK211 := n1_; have GW211 := n2_; have GE211 := n3_; clear n0_ n1_ n2_ n3_ hb hbox hg) | ((with_reducible refine gate_dst (N := 8) rfl ?_); refine box_event ?hg (N := 8) ?hd (cs := #[.slice none 0 0]) (t := 24) ?hr ?_; (case hd => rfl); (case hg => rfl); (case hr => first | (go_simp; done) | (go_simp; rfl)); intro gb212 hg w6 hbox hb; have n0_ := aA (bB BK211.out hb); have n1_ := aA (below_step (mD1 GE211.out) hb); have n2_ := aA (hbox); have n3_ := aA ((bZ hg (mD1 GE211.out))); have n4_ := aA ((bZ hg (mD1 GE211.out))); have n5_ := aA ((bL hg BK211.out)); have n6_ := aA ((bG hg BK211.out)); clear BK211 HB; have BK211 := n0_; have HB := n1_; have BK212 := n2_; have GW212 := n3_; have GE212 := n4_; have NB211_212 := n5_; have NB212_211 := n6_; clear n0_ n1_ n2_ n3_ n4_ n5_ n6_ hb hbox hg) | ((with_reducible refine gate_dst (N := 12) rfl ?_); refine Kd.R_lit Kd.string _ 9 ?hg (N := 12) ?hd (xs := ([] : List ByteArray)) (inner := []) (ok := fun _ => True) (okp := fun _ => True) ?hr ?hp (fun _ hk => hk) trivial (Below.refl _ _) (Nat.le_refl _) (by simp) ?_; (case hd => rfl); (case hg => rfl); (case hr => first | (go_simp; done) | (go_simp; rfl)); (case hp => exact (Reps.none _ _)); intro v214 w7 ho8 hb hg_ hnew_; clear hg_ hnew_; (first | rw [← Ny213.out] at ho8 | (simp only [Int.reduceToNat] at ho8; rw [← Ny213.out] at ho8)); have n0_ := aA (Kd.R_lower ho8 (below_size (mD2 GE211.out GE212.out))); have n1_ := aA (bB BK211.out hb); have n2_ := aA (bB BK212.out hb); have n3_ := aA (below_step (mD2 GE211.out GE212.out) hb); clear BK211 BK212 HB; have HO215 := n0_; have BK211 := n1_; have BK212 := n2_; have HB := n3_; clear n0_ n1_ n2_ n3_ hb ho8; have hnb9 := NB211_212.out; have hnc9 := NB212_211.out; have hcz10_0 : w7.cell? ⟨gb211, 0, none⟩ = some (.slice A0_0 l0_0.length c0_0) := (blk_cell BK211.out 0).trans rfl; have hfz10_0 := blk_frozen BK211.out 0)); try go_wp2_with (first | ((with_reducible refine gate_dst (N := 4) rfl ?_); refine box_event ?hg (N := 4) ?hd (cs := #[.slice A0_0 l0_0.length c0_0]) (t := 24) ?hr ?_; (case hd => rfl); (case hg => rfl); (case hr => first | (go_simp; done) | (go_simp; rfl)); intro gb211 hg w5 hbox hb; have n0_ := aA (below_step mB hb); have n1_ := aA (hbox); have n2_ := aA ((bZ hg mB)); have n3_ := aA ((bZ hg mB)); clear HB; have HB := n0_; have BK211 := n1_; have GW211 := n2_; have GE211 := n3_; clear n0_ n1_ n2_ n3_ hb hbox hg) | ((with_reducible refine gate_dst (N := 8) rfl ?_); refine box_event ?hg (N := 8) ?hd (cs := #[.slice none 0 0]) (t := 24) ?hr ?_; (case hd => rfl); (case hg => rfl); (case hr => first | (go_simp; done) | (go_simp; rfl)); intro gb212 hg w6 hbox hb; have n0_ := aA (bB BK211.out hb); have n1_ := aA (below_step (mD1 GE211.out) hb); have n2_ := aA (hbox); have n3_ := aA ((bZ hg (mD1 GE211.out))); have n4_ := aA ((bZ hg (mD1 GE211.out))); have n5_ := aA ((bL hg BK211.out)); have n6_ := aA ((bG hg BK211.out)); clear BK211 HB; have BK211 := n0_; have HB := n1_; have BK212 := n2_; have GW212 := n3_; have GE212 := n4_; have NB211_212 := n5_; have NB212_211 := n6_; clear n0_ n1_ n2_ n3_ n4_ n5_ n6_ hb hbox hg) | ((with_reducible refine gate_dst (N := 12) rfl ?_); refine Kd.R_lit Kd.string _ 9 ?hg (N := 12) ?hd (xs := ([] : List ByteArray)) (inner := []) (ok := fun _ => True) (okp := fun _ => True) ?hr ?hp (fun _ hk => hk) trivial (Below.refl _ _) (Nat.le_refl _) (by simp) ?_; (case hd => rfl); (case hg => rfl); (case hr => first | (go_simp; done) | (go_simp; rfl)); (case hp => exact (Reps.none _ _)); intro v214 w7 ho8 hb hg_ hnew_; clear hg_ hnew_; (first | rw [← Ny213.out] at ho8 | (simp only [Int.reduceToNat] at ho8; rw [← Ny213.out] at ho8)); have n0_ := aA (Kd.R_lower ho8 (below_size (mD2 GE211.out GE212.out))); have n1_ := aA (bB BK211.out hb); have n2_ := aA (bB BK212.out hb); have n3_ := aA (below_step (mD2 GE211.out GE212.out) hb); clear BK211 BK212 HB; have HO215 := n0_; have BK211 := n1_; have BK212 := n2_; have HB := n3_; clear n0_ n1_ n2_ n3_ hb ho8; have hnb9 := NB211_212.out; have hnc9 := NB212_211.out; have hcz10_0 : w7.cell? ⟨gb211, 0, none⟩ = some (.slice A0_0 l0_0.length c0_0) := (blk_cell BK211.out 0).trans rfl; have hfz10_0 := blk_frozen BK211.out 0)))
 go_loopg [9, 16] k (fun kq v9 v16 w' => ∃ (x9_1 : List ByteArray) (x16_1 : Int), v16 = .int .i64 x16_1 ∧ Aside0 (foghornref02_Tear.l0 kq a1 a2 a3 x9_1 l0_0 (l0_0.length : Int) x16_1 = some r) ∧ Aside0 (kq ≤ k) ∧ Aside0 (Kd.R Kd.string 9 w' w.heap.size (fun _ => True) v9 x9_1) ∧ Aside0 (w'.heap[gb211]? = some (.cells #[(.slice A0_0 l0_0.length c0_0)] 24 (0, 0))) ∧ Aside0 (w'.heap[gb212]? = some (.cells #[(.slice none 0 0)] 24 (0, 0))) ∧ Aside0 (Below w.heap.size w w'))
 case atStart => exact ⟨(y213), (0), (by first | rfl | (simp; done) | (simp [*]; done)), H', ⟨Nat.le_refl _⟩, ⟨by (with_reducible repeat (first | apply Kd.R_alloc | apply Kd.R_drewN | apply Kd.R_drew)); exact HO215.out⟩, ⟨by (with_reducible repeat (first | refine blk_drewN ?_ _ | refine blk_drew ?_ | refine blk_alloc ?_ _)); exact BK211.out⟩, ⟨by (with_reducible repeat (first | refine blk_drewN ?_ _ | refine blk_drew ?_ | refine blk_alloc ?_ _)); exact BK212.out⟩, ⟨by repeat (first | (with_reducible first | exact HB.out | apply below_alloc | apply pw_below_drewN | apply below_drew1 | refine below_set ?_ GE211.out | refine below_set ?_ GE212.out) | exact HB.out)⟩⟩
 case round =>
  clear H'
  try clear p2
  try clear c6
  try clear c9
  try clear hcz10_0
  try clear hfz10_0
  obtain ⟨x9_1, x16_1, rfl, HA, HK1, HO_9, BK211, BK212, HB⟩ := hrel
  cases gk with
  | zero => exact absurd HA.out (by simp [foghornref02_Tear.l0])
  | succ k1 =>
   have H := HA.out
   clear HA
   simp only [foghornref02_Tear.l0] at H
   by_cases c11 : x16_1 < (l0_0.length : Int)
   ·rw [if_pos c11] at H
    have c11b0 : decide (x16_1 < (l0_0.length : Int)) = true := decide_eq_true c11
    clear c11
    by_cases c12 : 0 ≤ x16_1
    ·rw [if_pos c12] at H
     have c12b0 : decide (0 ≤ x16_1) = true := decide_eq_true c12
     clear c12
     by_cases c13 : x16_1 < (l0_0.length : Int)
     ·rw [if_pos c13] at H
      have c13b0 : decide (x16_1 < (l0_0.length : Int)) = true := decide_eq_true c13
      clear c13
      by_cases c14 : x16_1 = a1
      ·rw [if_pos c14] at H
       have c14b0 : (x16_1 == a1) = true := beq_iff_eq.mpr c14
       have c14b1 : (x16_1 != a1) = false := bne_eq_false_iff_eq.mpr c14
       clear c14
       by_cases c15 : 0 ≤ a3
       ·rw [if_pos c15] at H
        have c15b0 := eq_true c15
        have c15b1 := decide_eq_true c15
        clear c15
        by_cases c16 : a3 ≤ (a2.size : Int)
        ·rw [if_pos c16] at H
         have c16b0 := eq_true c16
         have c16b1 := decide_eq_true c16
         clear c16
         have c17b0 := eq_true (of_decide_eq_true (by first | (with_reducible assumption) | assumption) : 0 ≤ a3)
         by_cases c18 : a3 ≤ ((rdOf ByteArray.empty l0_0 x16_1).size : Int)
         ·rw [if_pos c18] at H
          have c18b0 := eq_true c18
          have c18b1 := decide_eq_true c18
          clear c18
          by_cases c19 : (a2.extract 0 (a3 : Int).toNat).size + ((rdOf ByteArray.empty l0_0 x16_1).extract (a3 : Int).toNat (rdOf ByteArray.empty l0_0 x16_1).size).size ≤ 9223372036854775807
          ·rw [if_pos c19] at H
           have c19b0 := eq_true c19
           have c19b1 := decide_eq_true c19
           try have c19b2 : (9223372036854775807 < (a2.extract 0 (a3 : Int).toNat).size + ((rdOf ByteArray.empty l0_0 x16_1).extract (a3 : Int).toNat (rdOf ByteArray.empty l0_0 x16_1).size).size) = False := eq_false (Nat.not_lt.2 c19)
           by_cases c20 : x9_1.length < 8796093022208
           ·rw [if_pos c20] at H
            have LMc20 := aA c20
            clear c20
            obtain ⟨y217, hy217⟩ : ∃ y_ : List ByteArray, y_ = (x9_1 ++ [(a2.extract 0 (a3 : Int).toNat) ++ ((rdOf ByteArray.empty l0_0 x16_1).extract (a3 : Int).toNat (rdOf ByteArray.empty l0_0 x16_1).size)]) := ⟨_, rfl⟩
            replace H : (foghornref02_Tear.l0 k1 a1 a2 a3 y217 l0_0 (l0_0.length : Int) (wrap64 (x16_1 + 1))) = some r := by first | (rw [hy217]; with_reducible exact H) | (have H2_ := (Option.bind_some _ _).symm.trans H; rw [hy217]; with_reducible exact H2_) | (have H2_ := (Option.bind_some _ _).symm.trans H; with_reducible exact H2_) | with_reducible exact H | (rw [hy217]; exact H) | exact H
            have Ny217 := aA hy217
            clear hy217
            have H' := aA H
            clear H
            have p216 : 0 ≤ (x16_1 : Int) := of_decide_eq_true (by first | (with_reducible assumption) | assumption)
            have q216 : x16_1 < (l0_0.length : Int) := of_decide_eq_true (by first | (with_reducible assumption) | assumption)
            obtain ⟨ad216, e216, hx216_0⟩ := Kd.at_string HR0_0.out x16_1 p216 q216
            cases e216
            replace hx216_0 := (HB.out.cell (World.block_lt_of_cell? w _ hx216_0)).trans hx216_0
            replace p216 := eq_true p216
            replace q216 := eq_true q216
            go_wp2_with (first | ((with_reducible refine gate_builtin (b := .append) (xs := #[.tmp 31, .tmp 33]) rfl ?_); at_builtin; refine Kd.R_append Kd.string (w0 := w) w.heap.size rfl (.tmp 31) (.tmp 33) 22 9 (.string ⟨#[]⟩) 16 rfl Try.underlying22 info9 rfl (by decide) (by omega) u9 x9_1 ((a2.extract 0 (a3 : Int).toNat) ++ ((rdOf ByteArray.empty l0_0 x16_1).extract (a3 : Int).toNat (rdOf ByteArray.empty l0_0 x16_1).size)) [.string ((a2.extract 0 (a3 : Int).toNat) ++ ((rdOf ByteArray.empty l0_0 x16_1).extract (a3 : Int).toNat (rdOf ByteArray.empty l0_0 x16_1).size))] (fun _ => True) (fun _ => False) rfl rfl ?aP (fun _ hk => hk.elim) ?aF ?aO ?aB ?aS ?aL ?_; (case aP => exact rfl); (case aB => exact (mD2 GE211.out GE212.out)); (case aF => exact (fun _ _ => trivial)); (case aO => exact (mR HO_9.out)); (case aS => exact (below_size (mD2 GE211.out GE212.out))); (case aL => have := LMc20.out; omega); intro v218 w21 ho hb hg hat; rw [← Ny217.out] at ho; have n0_ := aA (blk_grown (g := gb211) (o := .cells #[.slice (some ad216) l0_0.length c0_0] 24 (0, 0)) (mK BK211.out) hg (Kd.R_ne HO_9.out BK211.out (by decide))); have n1_ := aA (blk_grown (g := gb212) (o := .cells #[.slice none 0 0] 24 (0, 0)) (mK BK212.out) hg (Kd.R_ne HO_9.out BK212.out (by decide))); have n2_ := aA (hb); have n3_ := aA (ho); clear BK211 BK212 HB HO_9; have BK211 := n0_; have BK212 := n1_; have HB := n2_; have HO219 := n3_; clear n0_ n1_ n2_ n3_ ho hb hg hat))
            repeat (go_quiet (first | ((with_reducible refine gate_builtin (b := .append) (xs := #[.tmp 31, .tmp 33]) rfl ?_); at_builtin; refine Kd.R_append Kd.string (w0 := w) w.heap.size rfl (.tmp 31) (.tmp 33) 22 9 (.string ⟨#[]⟩) 16 rfl Try.underlying22 info9 rfl (by decide) (by omega) u9 x9_1 ((a2.extract 0 (a3 : Int).toNat) ++ ((rdOf ByteArray.empty l0_0 x16_1).extract (a3 : Int).toNat (rdOf ByteArray.empty l0_0 x16_1).size)) [.string ((a2.extract 0 (a3 : Int).toNat) ++ ((rdOf ByteArray.empty l0_0 x16_1).extract (a3 : Int).toNat (rdOf ByteArray.empty l0_0 x16_1).size))] (fun _ => True) (fun _ => False) rfl rfl ?aP (fun _ hk => hk.elim) ?aF ?aO ?aB ?aS ?aL ?_; (case aP => exact rfl); (case aB => exact (mD2 GE211.out GE212.out)); (case aF => exact (fun _ _ => trivial)); (case aO => exact (mR HO_9.out)); (case aS => exact (below_size (mD2 GE211.out GE212.out))); (case aL => have := LMc20.out; omega); intro v218 w21 ho hb hg hat; rw [← Ny217.out] at ho; have n0_ := aA (blk_grown (g := gb211) (o := .cells #[.slice (some ad216) l0_0.length c0_0] 24 (0, 0)) (mK BK211.out) hg (Kd.R_ne HO_9.out BK211.out (by decide))); have n1_ := aA (blk_grown (g := gb212) (o := .cells #[.slice none 0 0] 24 (0, 0)) (mK BK212.out) hg (Kd.R_ne HO_9.out BK212.out (by decide))); have n2_ := aA (hb); have n3_ := aA (ho); clear BK211 BK212 HB HO_9; have BK211 := n0_; have BK212 := n1_; have HB := n2_; have HO219 := n3_; clear n0_ n1_ n2_ n3_ ho hb hg hat)); try go_wp2_with (first | ((with_reducible refine gate_builtin (b := .append) (xs := #[.tmp 31, .tmp 33]) rfl ?_); at_builtin; refine Kd.R_append Kd.string (w0 := w) w.heap.size rfl (.tmp 31) (.tmp 33) 22 9 (.string ⟨#[]⟩) 16 rfl Try.underlying22 info9 rfl (by decide) (by omega) u9 x9_1 ((a2.extract 0 (a3 : Int).toNat) ++ ((rdOf ByteArray.empty l0_0 x16_1).extract (a3 : Int).toNat (rdOf ByteArray.empty l0_0 x16_1).size)) [.string ((a2.extract 0 (a3 : Int).toNat) ++ ((rdOf ByteArray.empty l0_0 x16_1).extract (a3 : Int).toNat (rdOf ByteArray.empty l0_0 x16_1).size))] (fun _ => True) (fun _ => False) rfl rfl ?aP (fun _ hk => hk.elim) ?aF ?aO ?aB ?aS ?aL ?_; (case aP => exact rfl); (case aB => exact (mD2 GE211.out GE212.out)); (case aF => exact (fun _ _ => trivial)); (case aO => exact (mR HO_9.out)); (case aS => exact (below_size (mD2 GE211.out GE212.out))); (case aL => have := LMc20.out; omega); intro v218 w21 ho hb hg hat; rw [← Ny217.out] at ho; have n0_ := aA (blk_grown (g := gb211) (o := .cells #[.slice (some ad216) l0_0.length c0_0] 24 (0, 0)) (mK BK211.out) hg (Kd.R_ne HO_9.out BK211.out (by decide))); have n1_ := aA (blk_grown (g := gb212) (o := .cells #[.slice none 0 0] 24 (0, 0)) (mK BK212.out) hg (Kd.R_ne HO_9.out BK212.out (by decide))); have n2_ := aA (hb); have n3_ := aA (ho); clear BK211 BK212 HB HO_9; have BK211 := n0_; have BK212 := n1_; have HB := n2_; have HO219 := n3_; clear n0_ n1_ n2_ n3_ ho hb hg hat)))
            go_roundg k1
            case measure => have := HK1.out; omega
            case rel => exact ⟨(y217), (wrap64 (x16_1 + 1)), (by first | rfl | (simp; done) | (simp [*]; done)), H', ⟨by have := HK1.out; omega⟩, ⟨by (with_reducible repeat (first | apply Kd.R_alloc | apply Kd.R_drewN | apply Kd.R_drew)); exact HO219.out⟩, ⟨by (with_reducible repeat (first | refine blk_drewN ?_ _ | refine blk_drew ?_ | refine blk_alloc ?_ _)); exact BK211.out⟩, ⟨by (with_reducible repeat (first | refine blk_drewN ?_ _ | refine blk_drew ?_ | refine blk_alloc ?_ _)); exact BK212.out⟩, ⟨by repeat (first | (with_reducible first | exact HB.out | apply below_alloc | apply pw_below_drewN | apply below_drew1 | refine below_set ?_ GE211.out | refine below_set ?_ GE212.out) | exact HB.out)⟩⟩
           ·rw [if_neg c20] at H
            exact absurd H (by simp)
          ·rw [if_neg c19] at H
           exact absurd H (by simp)
         ·rw [if_neg c18] at H
          exact absurd H (by simp)
        ·rw [if_neg c16] at H
         exact absurd H (by simp)
       ·rw [if_neg c15] at H
        exact absurd H (by simp)
      ·rw [if_neg c14] at H
       have c14b0 : (x16_1 == a1) = false := beq_eq_false_iff_ne.mpr c14
       have c14b1 : (x16_1 != a1) = true := bne_iff_ne.mpr c14
       by_cases c22 : x9_1.length < 8796093022208
       ·rw [if_pos c22] at H
        have LMc22 := aA c22
        clear c22
        obtain ⟨y220, hy220⟩ : ∃ y_ : List ByteArray, y_ = (x9_1 ++ [rdOf ByteArray.empty l0_0 x16_1]) := ⟨_, rfl⟩
        replace H : (foghornref02_Tear.l0 k1 a1 a2 a3 y220 l0_0 (l0_0.length : Int) (wrap64 (x16_1 + 1))) = some r := by first | (rw [hy220]; with_reducible exact H) | (have H2_ := (Option.bind_some _ _).symm.trans H; rw [hy220]; with_reducible exact H2_) | (have H2_ := (Option.bind_some _ _).symm.trans H; with_reducible exact H2_) | with_reducible exact H | (rw [hy220]; exact H) | exact H
        have Ny220 := aA hy220
        clear hy220
        have H' := aA H
        clear H
        have p216 : 0 ≤ (x16_1 : Int) := of_decide_eq_true (by first | (with_reducible assumption) | assumption)
        have q216 : x16_1 < (l0_0.length : Int) := of_decide_eq_true (by first | (with_reducible assumption) | assumption)
        obtain ⟨ad216, e216, hx216_0⟩ := Kd.at_string HR0_0.out x16_1 p216 q216
        cases e216
        replace hx216_0 := (HB.out.cell (World.block_lt_of_cell? w _ hx216_0)).trans hx216_0
        replace p216 := eq_true p216
        replace q216 := eq_true q216
        go_wp2_with (first | ((with_reducible refine gate_builtin (b := .append) (xs := #[.tmp 31, .tmp 33]) rfl ?_); at_builtin; refine Kd.R_append Kd.string (w0 := w) w.heap.size rfl (.tmp 31) (.tmp 33) 22 9 (.string ⟨#[]⟩) 16 rfl Try.underlying22 info9 rfl (by decide) (by omega) u9 x9_1 (rdOf ByteArray.empty l0_0 x16_1) [.string (rdOf ByteArray.empty l0_0 x16_1)] (fun _ => True) (fun _ => False) rfl rfl ?aP (fun _ hk => hk.elim) ?aF ?aO ?aB ?aS ?aL ?_; (case aP => exact rfl); (case aB => exact (mD2 GE211.out GE212.out)); (case aF => exact (fun _ _ => trivial)); (case aO => exact (mR HO_9.out)); (case aS => exact (below_size (mD2 GE211.out GE212.out))); (case aL => have := LMc22.out; omega); intro v221 w23 ho hb hg hat; rw [← Ny220.out] at ho; have n0_ := aA (blk_grown (g := gb211) (o := .cells #[.slice (some ad216) l0_0.length c0_0] 24 (0, 0)) (mK BK211.out) hg (Kd.R_ne HO_9.out BK211.out (by decide))); have n1_ := aA (blk_grown (g := gb212) (o := .cells #[.slice none 0 0] 24 (0, 0)) (mK BK212.out) hg (Kd.R_ne HO_9.out BK212.out (by decide))); have n2_ := aA (hb); have n3_ := aA (ho); clear BK211 BK212 HB HO_9; have BK211 := n0_; have BK212 := n1_; have HB := n2_; have HO222 := n3_; clear n0_ n1_ n2_ n3_ ho hb hg hat))
        repeat (go_quiet (first | ((with_reducible refine gate_builtin (b := .append) (xs := #[.tmp 31, .tmp 33]) rfl ?_); at_builtin; refine Kd.R_append Kd.string (w0 := w) w.heap.size rfl (.tmp 31) (.tmp 33) 22 9 (.string ⟨#[]⟩) 16 rfl Try.underlying22 info9 rfl (by decide) (by omega) u9 x9_1 (rdOf ByteArray.empty l0_0 x16_1) [.string (rdOf ByteArray.empty l0_0 x16_1)] (fun _ => True) (fun _ => False) rfl rfl ?aP (fun _ hk => hk.elim) ?aF ?aO ?aB ?aS ?aL ?_; (case aP => exact rfl); (case aB => exact (mD2 GE211.out GE212.out)); (case aF => exact (fun _ _ => trivial)); (case aO => exact (mR HO_9.out)); (case aS => exact (below_size (mD2 GE211.out GE212.out))); (case aL => have := LMc22.out; omega); intro v221 w23 ho hb hg hat; rw [← Ny220.out] at ho; have n0_ := aA (blk_grown (g := gb211) (o := .cells #[.slice (some ad216) l0_0.length c0_0] 24 (0, 0)) (mK BK211.out) hg (Kd.R_ne HO_9.out BK211.out (by decide))); have n1_ := aA (blk_grown (g := gb212) (o := .cells #[.slice none 0 0] 24 (0, 0)) (mK BK212.out) hg (Kd.R_ne HO_9.out BK212.out (by decide))); have n2_ := aA (hb); have n3_ := aA (ho); clear BK211 BK212 HB HO_9; have BK211 := n0_; have BK212 := n1_; have HB := n2_; have HO222 := n3_; clear n0_ n1_ n2_ n3_ ho hb hg hat)); try go_wp2_with (first | ((with_reducible refine gate_builtin (b := .append) (xs := #[.tmp 31, .tmp 33]) rfl ?_); at_builtin; refine Kd.R_append Kd.string (w0 := w) w.heap.size rfl (.tmp 31) (.tmp 33) 22 9 (.string ⟨#[]⟩) 16 rfl Try.underlying22 info9 rfl (by decide) (by omega) u9 x9_1 (rdOf ByteArray.empty l0_0 x16_1) [.string (rdOf ByteArray.empty l0_0 x16_1)] (fun _ => True) (fun _ => False) rfl rfl ?aP (fun _ hk => hk.elim) ?aF ?aO ?aB ?aS ?aL ?_; (case aP => exact rfl); (case aB => exact (mD2 GE211.out GE212.out)); (case aF => exact (fun _ _ => trivial)); (case aO => exact (mR HO_9.out)); (case aS => exact (below_size (mD2 GE211.out GE212.out))); (case aL => have := LMc22.out; omega); intro v221 w23 ho hb hg hat; rw [← Ny220.out] at ho; have n0_ := aA (blk_grown (g := gb211) (o := .cells #[.slice (some ad216) l0_0.length c0_0] 24 (0, 0)) (mK BK211.out) hg (Kd.R_ne HO_9.out BK211.out (by decide))); have n1_ := aA (blk_grown (g := gb212) (o := .cells #[.slice none 0 0] 24 (0, 0)) (mK BK212.out) hg (Kd.R_ne HO_9.out BK212.out (by decide))); have n2_ := aA (hb); have n3_ := aA (ho); clear BK211 BK212 HB HO_9; have BK211 := n0_; have BK212 := n1_; have HB := n2_; have HO222 := n3_; clear n0_ n1_ n2_ n3_ ho hb hg hat)))
        go_roundg k1
        case measure => have := HK1.out; omega
        case rel => exact ⟨(y220), (wrap64 (x16_1 + 1)), (by first | rfl | (simp; done) | (simp [*]; done)), H', ⟨by have := HK1.out; omega⟩, ⟨by (with_reducible repeat (first | apply Kd.R_alloc | apply Kd.R_drewN | apply Kd.R_drew)); exact HO222.out⟩, ⟨by (with_reducible repeat (first | refine blk_drewN ?_ _ | refine blk_drew ?_ | refine blk_alloc ?_ _)); exact BK211.out⟩, ⟨by (with_reducible repeat (first | refine blk_drewN ?_ _ | refine blk_drew ?_ | refine blk_alloc ?_ _)); exact BK212.out⟩, ⟨by repeat (first | (with_reducible first | exact HB.out | apply below_alloc | apply pw_below_drewN | apply below_drew1 | refine below_set ?_ GE211.out | refine below_set ?_ GE212.out) | exact HB.out)⟩⟩
       ·rw [if_neg c22] at H
        exact absurd H (by simp)
     ·rw [if_neg c13] at H
      exact absurd H (by simp)
    ·rw [if_neg c12] at H
     exact absurd H (by simp)
   ·rw [if_neg c11] at H
    have c11b0 : decide (x16_1 < (l0_0.length : Int)) = false := decide_eq_false c11
    clear c11
    obtain rfl := Option.some.inj H
    obtain ⟨Ao24, co24, eo24⟩ := Kd.R_slice HO_9.out
    subst eo24
    have hnb25 := NB212_211.out
    have hnc25 := NB211_212.out
    have hcz26_0 : wr.cell? ⟨gb212, 0, none⟩ = some (.slice none 0 0) := (blk_cell BK212.out 0).trans rfl
    have hfz26_0 := blk_frozen BK212.out 0
    go_wp2
    repeat (go_quiet (fail); try go_wp2)
    refine bodyPost_ret (results_cell_row rfl _ _ gb212 24 #[.slice Ao24 x9_1.length co24] (0, 0) _ rfl (by (with_reducible repeat (first | refine blk_drewN ?_ _ | refine blk_drew ?_ | refine blk_alloc ?_ _)); have h_ := BK212.out; exact pK 0 (h_)) Try.underlying24 rfl (by kernel_rfl)) rfl ?_
    exact ⟨_, by first | rfl | (simp [errW_none, errW_some] <;> rfl) | (simp [*, errW_none, errW_some] <;> rfl), by (with_reducible repeat (first | apply Kd.R_alloc | apply Kd.R_drewN | apply Kd.R_drew)); exact Kd.R_mono (rF 0 (Kd.R_types HO_9.out BK212.out (by decide))) (fun _ hk => trivial), by repeat (first | (with_reducible first | exact HB.out | apply below_alloc | apply pw_below_drewN | apply below_drew1 | refine below_set ?_ GE211.out | refine below_set ?_ GE212.out) | exact HB.out)⟩
end Go.Proofs.YtopaddpclipnjaaQ.P
namespace Go.Proofs.YtopaddpclipnjaaQ.P
open Go.RowKit Go.Proofs.YtopaddpclipnjaaW.PrintWords Go.Proofs.YtopaddpclipnjaaW.PrintLast Go.Proofs.YtopaddpclipnjaaW.PrintMore
attribute [local go_sem] max2_int min2_int max_two min_two max_three min_three max_four min_four
def foghornref02_Write.f (k : Nat) (l0_0 : List ByteArray) (a1 : Int) (a2 : ByteArray) : Option (List ByteArray) := (foghornref02_Tear.f k l0_0 a1 a2 128).bind fun t225 => (some t225)
theorem foghornref02_Write.mono : ∀ a0 a1 a2 k, LeO (foghornref02_Write.f k a0 a1 a2) (foghornref02_Write.f (k + 1) a0 a1 a2) := by
 intro a0 a1 a2 k
 unfold foghornref02_Write.f
 repeat' first
   | (with_reducible exact foghornref02_Tear.mono _ _ _ _ _)
   | (with_reducible exact LeO.refl _)
   | (with_reducible exact LeO.none _)
   | (with_reducible refine LeO.ite ?_ ?_)
   | (with_reducible refine LeO.bind ?_ (fun _ => ?_))
   | exact foghornref02_Tear.mono _ _ _ _ _
   | exact LeO.none _
   | refine LeO.ite ?_ ?_
   | refine LeO.bind ?_ (fun _ => ?_)
set_option maxHeartbeats 8000000 in
set_option maxRecDepth 100000 in
theorem foghornref02_Write.calls (k : Nat) (A0_0 : Option Addr) (c0_0 : Nat) (l0_0 : List ByteArray) (a1 : Int) (a2 : ByteArray) (r : List ByteArray) (w : World) (hr0_0 : Kd.C Kd.string w A0_0 l0_0.length l0_0) (hc0_0 : l0_0.length ≤ c0_0) (h : foghornref02_Write.f k l0_0 a1 a2 = some r) :
  Calls Try.prog 40 #[.agg #[.slice A0_0 l0_0.length c0_0], .int .i64 a1, .string a2] w fun e w' => ∃ v0_ : Value, e = .returned (.agg #[v0_]) ∧ Kd.R Kd.string 9 w' w.heap.size (fun _ => True) v0_ r ∧ Below w.heap.size w w' := by
 have hu24 := Try.underlying24
 have HR0_0 := aA hr0_0
 have HC0_0 := aA hc0_0
 clear hr0_0 hc0_0
 have HB := aA (Below.refl w.heap.size w)
 have H : ((foghornref02_Tear.f k l0_0 a1 a2 128).bind fun t225 => (some t225)) = some r := h
 clear h
 replace H := Option.bind_eq_some_iff.mp H
 obtain ⟨t225, A40, H⟩ := H
 have A4 := aA A40
 clear A40
 obtain rfl := Option.some.inj H
 go_enter Try.func40, Try.ntmps40
 go_wp2_with (first | ((with_reducible refine gate_dst (N := 3) rfl ?_); refine box_event ?hg (N := 3) ?hd (cs := #[.slice A0_0 l0_0.length c0_0]) (t := 24) ?hr ?_; (case hd => rfl); (case hg => rfl); (case hr => first | (go_simp; done) | (go_simp; rfl)); intro gb223 hg w5 hbox hb; have n0_ := aA (below_step mB hb); have n1_ := aA (hbox); have n2_ := aA ((bZ hg mB)); have n3_ := aA ((bZ hg mB)); clear HB; have HB := n0_; have BK223 := n1_; have GW223 := n2_; have GE223 := n3_; clear n0_ n1_ n2_ n3_ hb hbox hg) | ((with_reducible refine gate_dst (N := 6) rfl ?_); refine box_event ?hg (N := 6) ?hd (cs := #[.slice none 0 0]) (t := 24) ?hr ?_; (case hd => rfl); (case hg => rfl); (case hr => first | (go_simp; done) | (go_simp; rfl)); intro gb224 hg w6 hbox hb; have n0_ := aA (bB BK223.out hb); have n1_ := aA (below_step (mD1 GE223.out) hb); have n2_ := aA (hbox); have n3_ := aA ((bZ hg (mD1 GE223.out))); have n4_ := aA ((bZ hg (mD1 GE223.out))); have n5_ := aA ((bL hg BK223.out)); have n6_ := aA ((bG hg BK223.out)); clear BK223 HB; have BK223 := n0_; have HB := n1_; have BK224 := n2_; have GW224 := n3_; have GE224 := n4_; have NB223_224 := n5_; have NB224_223 := n6_; clear n0_ n1_ n2_ n3_ n4_ n5_ n6_ hb hbox hg; have hnb7 := NB223_224.out; have hnc7 := NB224_223.out; have hcz8_0 : w6.cell? ⟨gb223, 0, none⟩ = some (.slice A0_0 l0_0.length c0_0) := (blk_cell BK223.out 0).trans rfl; have hfz8_0 := blk_frozen BK223.out 0) | ((with_reducible refine gate_callee (f := 61) rfl ?_); refine goesL_ (some 10) rfl rfl Try.func61 (by kernel_rfl) rfl #[.agg #[.slice A0_0 l0_0.length c0_0], .int .i64 a1, .string a2, .int .i64 128] rfl mS ?_; (with_reducible refine (foghornref02_Tear.calls k _ _ l0_0 a1 a2 128 t225 _ ?side1 ?side2 A4.out).mono ?_); (case side1 => exact mC ((Kd.C_below HR0_0.out HB.out))); (case side2 => exact HC0_0.out); rintro e w9 ⟨v226, rfl, ho0, hb⟩; refine ⟨_, rfl, ?_⟩; have n0_ := aA (Kd.R_lower ho0 (below_size (mD2 GE223.out GE224.out))); have n1_ := aA (bB BK223.out hb); have n2_ := aA (bB BK224.out hb); have n3_ := aA (below_step (mD2 GE223.out GE224.out) hb); clear BK223 BK224 HB; have HO227 := n0_; have BK223 := n1_; have BK224 := n2_; have HB := n3_; clear n0_ n1_ n2_ n3_; (try clear hb); (try clear hb2); (try clear hk); (try clear hi); (try clear ho0); obtain ⟨Ao10, co10, eo10⟩ := Kd.R_slice HO227.out; subst eo10; have hcz11_0 : w9.cell? ⟨gb224, 0, none⟩ = some (.slice none 0 0) := (blk_cell BK224.out 0).trans rfl; have hfz11_0 := blk_frozen BK224.out 0))
 refine bodyPost_ret (results_cell_row rfl _ _ gb224 24 #[.slice Ao10 t225.length co10] (0, 0) _ rfl (by (with_reducible repeat (first | refine blk_drewN ?_ _ | refine blk_drew ?_ | refine blk_alloc ?_ _)); have h_ := BK224.out; exact pK 0 (h_)) Try.underlying24 rfl (by kernel_rfl)) rfl ?_
 exact ⟨_, by first | rfl | (simp [errW_none, errW_some] <;> rfl) | (simp [*, errW_none, errW_some] <;> rfl), by (with_reducible repeat (first | apply Kd.R_alloc | apply Kd.R_drewN | apply Kd.R_drew)); exact Kd.R_mono (rF 0 (Kd.R_types HO227.out BK224.out (by decide))) (fun _ hk => trivial), by repeat (first | (with_reducible first | exact HB.out | apply below_alloc | apply pw_below_drewN | apply below_drew1 | refine below_set ?_ GE223.out | refine below_set ?_ GE224.out) | exact HB.out)⟩
end Go.Proofs.YtopaddpclipnjaaQ.P
namespace Go.Proofs.YtopaddpclipnjaaQ.P
open Go.RowKit Go.Proofs.YtopaddpclipnjaaW.PrintWords Go.Proofs.YtopaddpclipnjaaW.PrintLast Go.Proofs.YtopaddpclipnjaaW.PrintMore
attribute [local go_sem] max2_int min2_int max_two min_two max_three min_three max_four min_four
def foghornref04_write.f (k : Nat) (l0_0 : List ByteArray) (a0_1 : Int) (a0_2 : Int) (a0_3 : Int) (a0_4 : Bool) (a1 : Int) (a2 : ByteArray) (a3_0 : Int) (a3_1 : Int) : Option (List ByteArray × Int × Int × Int × Bool × Int) := if a3_0 = 1 then (some (l0_0, a0_1, a0_2, a0_3, a0_4, 8)) else (if a3_0 = 2 then ((foghornref02_Tear.f k l0_0 a1 a2 a3_1).bind fun t381 => (some (t381, a0_1, a0_2, a0_3, true, 9))) else ((foghornref02_Write.f k l0_0 a1 a2).bind fun t384 => (some (t384, a0_1, a0_2, a0_3, a0_4, 0))))
theorem foghornref04_write.mono : ∀ a0 a1 a2 a3 a4 a5 a6 a7 a8 k, LeO (foghornref04_write.f k a0 a1 a2 a3 a4 a5 a6 a7 a8) (foghornref04_write.f (k + 1) a0 a1 a2 a3 a4 a5 a6 a7 a8) := by
 intro a0 a1 a2 a3 a4 a5 a6 a7 a8 k
 unfold foghornref04_write.f
 repeat' first
   | (with_reducible exact foghornref02_Tear.mono _ _ _ _ _)
   | (with_reducible exact foghornref02_Write.mono _ _ _ _)
   | (with_reducible exact LeO.refl _)
   | (with_reducible exact LeO.none _)
   | (with_reducible refine LeO.ite ?_ ?_)
   | (with_reducible refine LeO.bind ?_ (fun _ => ?_))
   | exact foghornref02_Tear.mono _ _ _ _ _
   | exact foghornref02_Write.mono _ _ _ _
   | exact LeO.none _
   | refine LeO.ite ?_ ?_
   | refine LeO.bind ?_ (fun _ => ?_)
set_option maxHeartbeats 8000000 in
set_option maxRecDepth 100000 in
theorem foghornref04_write.calls (k : Nat) (P0_0_ : Nat → Prop) (A0_0 : Option Addr) (c0_0 : Nat) (l0_0 : List ByteArray) (a0_1 : Int) (a0_2 : Int) (a0_3 : Int) (a0_4 : Bool) (a1 : Int) (a2 : ByteArray) (a3_0 : Int) (a3_1 : Int) (r1 : List ByteArray) (r2 : Int) (r3 : Int) (r4 : Int) (r5 : Bool) (r6 : Int) (w : World) (hs0_0 : Kd.V Kd.string 9 w w.heap.size (fun k_ => P0_0_ k_) (.slice A0_0 l0_0.length c0_0) l0_0) (h : foghornref04_write.f k l0_0 a0_1 a0_2 a0_3 a0_4 a1 a2 a3_0 a3_1 = some (r1, r2, r3, r4, r5, r6)) :
  Calls Try.prog 53 #[.agg #[.slice A0_0 l0_0.length c0_0, .int .i64 a0_1, .int .i64 a0_2, .int .i64 a0_3, .bool a0_4], .int .i64 a1, .string a2, .agg #[.int .i64 a3_0, .int .i64 a3_1]] w fun e w' => ∃ v0_ : Value, e = .returned (.tuple #[.agg #[v0_, .int .i64 r2, .int .i64 r3, .int .i64 r4, .bool r5], .int .i64 r6]) ∧ Kd.V Kd.string 9 w' w.heap.size (fun k_ => (P0_0_ k_ ∨ w.heap.size ≤ k_)) v0_ r1 ∧ Below w.heap.size w w' := by
 have hu26 := Try.underlying26
 have hu45 := Try.underlying45
 have hu24 := Try.underlying24
 have HO0_0 := aA (show Kd.V Kd.string 9 w w.heap.size (fun k_ => (P0_0_ k_ ∨ w.heap.size ≤ k_)) (.slice A0_0 l0_0.length c0_0) l0_0 from Kd.V_mono hs0_0 (fun k_ hk => .inl hk))
 have HB := aA (Below.refl w.heap.size w)
 have H : (if a3_0 = 1 then (some (l0_0, a0_1, a0_2, a0_3, a0_4, 8)) else (if a3_0 = 2 then ((foghornref02_Tear.f k l0_0 a1 a2 a3_1).bind fun t381 => (some (t381, a0_1, a0_2, a0_3, true, 9))) else ((foghornref02_Write.f k l0_0 a1 a2).bind fun t384 => (some (t384, a0_1, a0_2, a0_3, a0_4, 0))))) = some (r1, r2, r3, r4, r5, r6) := h
 clear h
 by_cases c5 : a3_0 = 1
 ·rw [if_pos c5] at H
  have c5b0 : (a3_0 == 1) = true := beq_iff_eq.mpr c5
  have c5b1 : (a3_0 != 1) = false := bne_eq_false_iff_eq.mpr c5
  clear c5
  simp only [Option.some.injEq, Prod.mk.injEq] at H
  obtain ⟨rfl, rfl, rfl, rfl, rfl, rfl⟩ := H
  go_enter Try.func53, Try.ntmps53
  go_wp2_with (first | ((with_reducible refine gate_dst (N := 4) rfl ?_); refine box_event ?hg (N := 4) ?hd (cs := #[.slice A0_0 l0_0.length c0_0, .int .i64 a0_1, .int .i64 a0_2, .int .i64 a0_3, .bool a0_4]) (t := 26) ?hr ?_; (case hd => rfl); (case hg => rfl); (case hr => first | (go_simp; done) | (go_simp; rfl)); intro gb378 hg w6 hbox hb; have n0_ := aA (Kd.V_below (Kd.V_elderB (by (with_reducible repeat (first | apply Kd.V_alloc | apply Kd.V_drewN | apply Kd.V_drew)); exact HO0_0.out) gb378 (Nat.le_of_eq hg.symm)) hb); have n1_ := aA (below_step mB hb); have n2_ := aA (hbox); have n3_ := aA ((bZ hg mB)); have n4_ := aA ((bZ hg mB)); clear HO0_0 HB; have HO0_0 := n0_; have HB := n1_; have BK378 := n2_; have GW378 := n3_; have GE378 := n4_; clear n0_ n1_ n2_ n3_ n4_ hb hbox hg) | ((with_reducible refine gate_dst (N := 7) rfl ?_); refine box_event ?hg (N := 7) ?hd (cs := #[.int .i64 a3_0, .int .i64 a3_1]) (t := 45) ?hr ?_; (case hd => rfl); (case hg => rfl); (case hr => first | (go_simp; done) | (go_simp; rfl)); intro gb379 hg w7 hbox hb; have n0_ := aA (Kd.V_below (Kd.V_elderB (by (with_reducible repeat (first | apply Kd.V_alloc | apply Kd.V_drewN | apply Kd.V_drew)); exact HO0_0.out) gb379 (Nat.le_of_eq hg.symm)) hb); have n1_ := aA (bB BK378.out hb); have n2_ := aA (below_step (mD1 GE378.out) hb); have n3_ := aA (hbox); have n4_ := aA ((bZ hg (mD1 GE378.out))); have n5_ := aA ((bZ hg (mD1 GE378.out))); have n6_ := aA ((bL hg BK378.out)); have n7_ := aA ((bG hg BK378.out)); clear HO0_0 BK378 HB; have HO0_0 := n0_; have BK378 := n1_; have HB := n2_; have BK379 := n3_; have GW379 := n4_; have GE379 := n5_; have NB378_379 := n6_; have NB379_378 := n7_; clear n0_ n1_ n2_ n3_ n4_ n5_ n6_ n7_ hb hbox hg) | ((with_reducible refine gate_dst (N := 8) rfl ?_); refine box_event ?hg (N := 8) ?hd (cs := #[.slice none 0 0, .int .i64 0, .int .i64 0, .int .i64 0, .bool false]) (t := 26) ?hr ?_; (case hd => rfl); (case hg => rfl); (case hr => first | (go_simp; done) | (go_simp; rfl)); intro gb380 hg w8 hbox hb; have n0_ := aA (Kd.V_below (Kd.V_elderB (by (with_reducible repeat (first | apply Kd.V_alloc | apply Kd.V_drewN | apply Kd.V_drew)); exact HO0_0.out) gb380 (Nat.le_of_eq hg.symm)) hb); have n1_ := aA (bB BK378.out hb); have n2_ := aA (bB BK379.out hb); have n3_ := aA (below_step (mD2 GE378.out GE379.out) hb); have n4_ := aA (hbox); have n5_ := aA ((bZ hg (mD2 GE378.out GE379.out))); have n6_ := aA ((bZ hg (mD2 GE378.out GE379.out))); have n7_ := aA ((bL hg BK378.out)); have n8_ := aA ((bG hg BK378.out)); have n9_ := aA ((bL hg BK379.out)); have n10_ := aA ((bG hg BK379.out)); clear HO0_0 BK378 BK379 HB; have HO0_0 := n0_; have BK378 := n1_; have BK379 := n2_; have HB := n3_; have BK380 := n4_; have GW380 := n5_; have GE380 := n6_; have NB378_380 := n7_; have NB380_378 := n8_; have NB379_380 := n9_; have NB380_379 := n10_; clear n0_ n1_ n2_ n3_ n4_ n5_ n6_ n7_ n8_ n9_ n10_ hb hbox hg; have hnb9 := NB379_378.out; have hnc9 := NB378_379.out; have hnb10 := NB379_380.out; have hnc10 := NB380_379.out; obtain ⟨hcz11_0, hcz11_1⟩ := bC2 BK379.out; obtain ⟨hfz11_0, hfz11_1⟩ := bF2 BK379.out; have hnb12 := NB378_380.out; have hnc12 := NB380_378.out; obtain ⟨hcz13_0, hcz13_1, hcz13_2, hcz13_3, hcz13_4⟩ := bC5 BK378.out; obtain ⟨hfz13_0, hfz13_1, hfz13_2, hfz13_3, hfz13_4⟩ := bF5 BK378.out; obtain ⟨hcz14_0, hcz14_1, hcz14_2, hcz14_3, hcz14_4⟩ := bC5 BK380.out; obtain ⟨hfz14_0, hfz14_1, hfz14_2, hfz14_3, hfz14_4⟩ := bF5 BK380.out))
  refine bodyPost_ret (results_ct rfl _ _ gb380 26 #[.slice A0_0 l0_0.length c0_0, .int .i64 a0_1, .int .i64 a0_2, .int .i64 a0_3, .bool a0_4] (0, 0) _ rfl (by (with_reducible repeat (first | refine blk_drewN ?_ _ | refine blk_drew ?_ | refine blk_alloc ?_ _)); have h_ := BK380.out; exact pK 4 (pK 3 (pK 2 (pK 1 (pK 0 (h_)))))) Try.underlying26 rfl (by kernel_rfl)) rfl ?_
  exact ⟨_, by first | rfl | (simp [errW_none, errW_some] <;> rfl) | (simp [*, errW_none, errW_some] <;> rfl), by (with_reducible repeat (first | apply Kd.V_alloc | apply Kd.V_drewN | apply Kd.V_drew)); exact Kd.V_mono (Kd.V_far (p := ⟨gb380, 4, none⟩) (Kd.V_far (p := ⟨gb380, 3, none⟩) (Kd.V_far (p := ⟨gb380, 2, none⟩) (Kd.V_far (p := ⟨gb380, 1, none⟩) (Kd.V_far (p := ⟨gb380, 0, none⟩) (Kd.V_mono HO0_0.out (fun k_ hk => (⟨hk, hk.2⟩ : _ ∧ k_ ≠ gb380))) (fun _ hk => hk.2) (.slice A0_0 l0_0.length c0_0)) (fun _ hk => hk.2) (.int .i64 a0_1)) (fun _ hk => hk.2) (.int .i64 a0_2)) (fun _ hk => hk.2) (.int .i64 a0_3)) (fun _ hk => hk.2) (.bool a0_4)) (fun _ hk => hk.1.1.1.1), by repeat (first | (with_reducible first | exact HB.out | apply below_alloc | apply pw_below_drewN | apply below_drew1 | refine below_set ?_ GE378.out | refine below_set ?_ GE379.out | refine below_set ?_ GE380.out) | exact HB.out)⟩
 ·rw [if_neg c5] at H
  have c5b0 : (a3_0 == 1) = false := beq_eq_false_iff_ne.mpr c5
  have c5b1 : (a3_0 != 1) = true := bne_iff_ne.mpr c5
  by_cases c15 : a3_0 = 2
  ·rw [if_pos c15] at H
   have c15b0 : (a3_0 == 2) = true := beq_iff_eq.mpr c15
   have c15b1 : (a3_0 != 2) = false := bne_eq_false_iff_eq.mpr c15
   clear c15
   replace H := Option.bind_eq_some_iff.mp H
   obtain ⟨t381, A160, H⟩ := H
   replace H : (some (t381, a0_1, a0_2, a0_3, true, 9)) = some (r1, r2, r3, r4, r5, r6) := H
   have A16 := aA A160
   clear A160
   simp only [Option.some.injEq, Prod.mk.injEq] at H
   obtain ⟨rfl, rfl, rfl, rfl, rfl, rfl⟩ := H
   go_enter Try.func53, Try.ntmps53
   go_wp2_with (first | ((with_reducible refine gate_dst (N := 4) rfl ?_); refine box_event ?hg (N := 4) ?hd (cs := #[.slice A0_0 l0_0.length c0_0, .int .i64 a0_1, .int .i64 a0_2, .int .i64 a0_3, .bool a0_4]) (t := 26) ?hr ?_; (case hd => rfl); (case hg => rfl); (case hr => first | (go_simp; done) | (go_simp; rfl)); intro gb378 hg w17 hbox hb; have n0_ := aA (Kd.V_below (Kd.V_elderB (by (with_reducible repeat (first | apply Kd.V_alloc | apply Kd.V_drewN | apply Kd.V_drew)); exact HO0_0.out) gb378 (Nat.le_of_eq hg.symm)) hb); have n1_ := aA (below_step mB hb); have n2_ := aA (hbox); have n3_ := aA ((bZ hg mB)); have n4_ := aA ((bZ hg mB)); clear HO0_0 HB; have HO0_0 := n0_; have HB := n1_; have BK378 := n2_; have GW378 := n3_; have GE378 := n4_; clear n0_ n1_ n2_ n3_ n4_ hb hbox hg) | ((with_reducible refine gate_dst (N := 7) rfl ?_); refine box_event ?hg (N := 7) ?hd (cs := #[.int .i64 a3_0, .int .i64 a3_1]) (t := 45) ?hr ?_; (case hd => rfl); (case hg => rfl); (case hr => first | (go_simp; done) | (go_simp; rfl)); intro gb379 hg w18 hbox hb; have n0_ := aA (Kd.V_below (Kd.V_elderB (by (with_reducible repeat (first | apply Kd.V_alloc | apply Kd.V_drewN | apply Kd.V_drew)); exact HO0_0.out) gb379 (Nat.le_of_eq hg.symm)) hb); have n1_ := aA (bB BK378.out hb); have n2_ := aA (below_step (mD1 GE378.out) hb); have n3_ := aA (hbox); have n4_ := aA ((bZ hg (mD1 GE378.out))); have n5_ := aA ((bZ hg (mD1 GE378.out))); have n6_ := aA ((bL hg BK378.out)); have n7_ := aA ((bG hg BK378.out)); clear HO0_0 BK378 HB; have HO0_0 := n0_; have BK378 := n1_; have HB := n2_; have BK379 := n3_; have GW379 := n4_; have GE379 := n5_; have NB378_379 := n6_; have NB379_378 := n7_; clear n0_ n1_ n2_ n3_ n4_ n5_ n6_ n7_ hb hbox hg) | ((with_reducible refine gate_dst (N := 8) rfl ?_); refine box_event ?hg (N := 8) ?hd (cs := #[.slice none 0 0, .int .i64 0, .int .i64 0, .int .i64 0, .bool false]) (t := 26) ?hr ?_; (case hd => rfl); (case hg => rfl); (case hr => first | (go_simp; done) | (go_simp; rfl)); intro gb380 hg w19 hbox hb; have n0_ := aA (Kd.V_below (Kd.V_elderB (by (with_reducible repeat (first | apply Kd.V_alloc | apply Kd.V_drewN | apply Kd.V_drew)); exact HO0_0.out) gb380 (Nat.le_of_eq hg.symm)) hb); have n1_ := aA (bB BK378.out hb); have n2_ := aA (bB BK379.out hb); have n3_ := aA (below_step (mD2 GE378.out GE379.out) hb); have n4_ := aA (hbox); have n5_ := aA ((bZ hg (mD2 GE378.out GE379.out))); have n6_ := aA ((bZ hg (mD2 GE378.out GE379.out))); have n7_ := aA ((bL hg BK378.out)); have n8_ := aA ((bG hg BK378.out)); have n9_ := aA ((bL hg BK379.out)); have n10_ := aA ((bG hg BK379.out)); clear HO0_0 BK378 BK379 HB; have HO0_0 := n0_; have BK378 := n1_; have BK379 := n2_; have HB := n3_; have BK380 := n4_; have GW380 := n5_; have GE380 := n6_; have NB378_380 := n7_; have NB380_378 := n8_; have NB379_380 := n9_; have NB380_379 := n10_; clear n0_ n1_ n2_ n3_ n4_ n5_ n6_ n7_ n8_ n9_ n10_ hb hbox hg; have hnb20 := NB379_378.out; have hnc20 := NB378_379.out; have hnb21 := NB379_380.out; have hnc21 := NB380_379.out; obtain ⟨hcz22_0, hcz22_1⟩ := bC2 BK379.out; obtain ⟨hfz22_0, hfz22_1⟩ := bF2 BK379.out; have hnb23 := NB378_380.out; have hnc23 := NB380_378.out; obtain ⟨hcz24_0, hcz24_1, hcz24_2, hcz24_3, hcz24_4⟩ := bC5 BK378.out; obtain ⟨hfz24_0, hfz24_1, hfz24_2, hfz24_3, hfz24_4⟩ := bF5 BK378.out) | ((with_reducible refine gate_callee (f := 61) rfl ?_); refine goesL_ (some 23) rfl rfl Try.func61 (by kernel_rfl) rfl #[.agg #[.slice A0_0 l0_0.length c0_0], .int .i64 a1, .string a2, .int .i64 a3_1] rfl mS ?_; (with_reducible refine (foghornref02_Tear.calls k _ _ l0_0 a1 a2 a3_1 t381 _ ?side1 ?side2 A16.out).mono ?_); (case side1 => exact mC ((Kd.V_reads' HO0_0.out).2.2)); (case side2 => exact (Kd.V_reads' HO0_0.out).2.1); rintro e w25 ⟨v382, rfl, ho0, hb⟩; refine ⟨_, rfl, ?_⟩; have n0_ := aA (Kd.V_elder' (by (with_reducible repeat (first | apply Kd.V_alloc | apply Kd.V_drewN | apply Kd.V_drew)); exact HO0_0.out) (Kd.R_base ho0) hb); have n1_ := aA (Kd.R_lower (Kd.R_newM (M := fun k_ => (w.heap.size ≤ k_)) ho0 (below_size (mD3 GE378.out GE379.out GE380.out)) (fun k_ h_ => h_)) (below_size (mD3 GE378.out GE379.out GE380.out))); have n2_ := aA (bB BK378.out hb); have n3_ := aA (bB BK379.out hb); have n4_ := aA (bB BK380.out hb); have n5_ := aA (below_step (mD3 GE378.out GE379.out GE380.out) hb); clear HO0_0 BK378 BK379 BK380 HB; have HO0_0 := n0_; have HO383 := n1_; have BK378 := n2_; have BK379 := n3_; have BK380 := n4_; have HB := n5_; clear n0_ n1_ n2_ n3_ n4_ n5_; (try clear hb); (try clear hb2); (try clear hk); (try clear hi); (try clear ho0); obtain ⟨Ao26, co26, eo26⟩ := Kd.R_slice HO383.out; subst eo26; obtain ⟨hcz27_0, hcz27_1, hcz27_2, hcz27_3, hcz27_4⟩ := bC5 BK378.out; obtain ⟨hfz27_0, hfz27_1, hfz27_2, hfz27_3, hfz27_4⟩ := bF5 BK378.out; obtain ⟨hcz28_0, hcz28_1, hcz28_2, hcz28_3, hcz28_4⟩ := bC5 BK380.out; obtain ⟨hfz28_0, hfz28_1, hfz28_2, hfz28_3, hfz28_4⟩ := bF5 BK380.out))
   refine bodyPost_ret (results_ct rfl _ _ gb380 26 #[.slice Ao26 t381.length co26, .int .i64 a0_1, .int .i64 a0_2, .int .i64 a0_3, .bool true] (0, 0) _ rfl (by (with_reducible repeat (first | refine blk_drewN ?_ _ | refine blk_drew ?_ | refine blk_alloc ?_ _)); refine blk_put (cs := #[.slice Ao26 t381.length co26, .int .i64 a0_1, .int .i64 a0_2, .int .i64 a0_3, .bool false]) ?_ 4 _ rfl; (with_reducible repeat (first | refine blk_drewN ?_ _ | refine blk_drew ?_ | refine blk_alloc ?_ _)); refine blk_put (cs := #[.slice Ao26 t381.length co26, .int .i64 a0_1, .int .i64 a0_2, .int .i64 0, .bool false]) ?_ 3 _ rfl; (with_reducible repeat (first | refine blk_drewN ?_ _ | refine blk_drew ?_ | refine blk_alloc ?_ _)); refine blk_put (cs := #[.slice Ao26 t381.length co26, .int .i64 a0_1, .int .i64 0, .int .i64 0, .bool false]) ?_ 2 _ rfl; (with_reducible repeat (first | refine blk_drewN ?_ _ | refine blk_drew ?_ | refine blk_alloc ?_ _)); refine blk_put (cs := #[.slice Ao26 t381.length co26, .int .i64 0, .int .i64 0, .int .i64 0, .bool false]) ?_ 1 _ rfl; (with_reducible repeat (first | refine blk_drewN ?_ _ | refine blk_drew ?_ | refine blk_alloc ?_ _)); refine blk_put (cs := #[.slice none 0 0, .int .i64 0, .int .i64 0, .int .i64 0, .bool false]) ?_ 0 _ rfl; (with_reducible repeat (first | refine blk_drewN ?_ _ | refine blk_drew ?_ | refine blk_alloc ?_ _)); refine blk_far ?_ NB380_378.out _; (with_reducible repeat (first | refine blk_drewN ?_ _ | refine blk_drew ?_ | refine blk_alloc ?_ _)); refine blk_far ?_ NB380_378.out _; (with_reducible repeat (first | refine blk_drewN ?_ _ | refine blk_drew ?_ | refine blk_alloc ?_ _)); exact BK380.out) Try.underlying26 rfl (by kernel_rfl)) rfl ?_
   exact ⟨_, by first | rfl | (simp [errW_none, errW_some] <;> rfl) | (simp [*, errW_none, errW_some] <;> rfl), Kd.V_mono (Kd.R_V (by (with_reducible repeat (first | apply Kd.R_alloc | apply Kd.R_drewN | apply Kd.R_drew)); exact Kd.R_mono (rF 4 (rF 3 (rF 2 (rF 1 (rF 0 (Kd.R_far (p := ⟨gb378, 4, none⟩) (Kd.R_far (p := ⟨gb378, 0, none⟩) (Kd.R_types (Kd.R_types HO383.out BK378.out (by decide)) BK380.out (by decide)) (fun _ hk => hk.1.2) (.slice Ao26 t381.length co26)) (fun _ hk => hk.1.2) (.bool true))))))) (fun _ hk => hk.1.1.1))) (fun k_ hk => by first | exact ⟨(.inr (hk.1)), hk.2⟩ | exact (.inr (hk))), by repeat (first | (with_reducible first | exact HB.out | apply below_alloc | apply pw_below_drewN | apply below_drew1 | refine below_set ?_ GE378.out | refine below_set ?_ GE379.out | refine below_set ?_ GE380.out) | exact HB.out)⟩
  ·rw [if_neg c15] at H
   have c15b0 : (a3_0 == 2) = false := beq_eq_false_iff_ne.mpr c15
   have c15b1 : (a3_0 != 2) = true := bne_iff_ne.mpr c15
   replace H := Option.bind_eq_some_iff.mp H
   obtain ⟨t384, A290, H⟩ := H
   replace H : (some (t384, a0_1, a0_2, a0_3, a0_4, 0)) = some (r1, r2, r3, r4, r5, r6) := H
   have A29 := aA A290
   clear A290
   simp only [Option.some.injEq, Prod.mk.injEq] at H
   obtain ⟨rfl, rfl, rfl, rfl, rfl, rfl⟩ := H
   go_enter Try.func53, Try.ntmps53
   go_wp2_with (first | ((with_reducible refine gate_dst (N := 4) rfl ?_); refine box_event ?hg (N := 4) ?hd (cs := #[.slice A0_0 l0_0.length c0_0, .int .i64 a0_1, .int .i64 a0_2, .int .i64 a0_3, .bool a0_4]) (t := 26) ?hr ?_; (case hd => rfl); (case hg => rfl); (case hr => first | (go_simp; done) | (go_simp; rfl)); intro gb378 hg w30 hbox hb; have n0_ := aA (Kd.V_below (Kd.V_elderB (by (with_reducible repeat (first | apply Kd.V_alloc | apply Kd.V_drewN | apply Kd.V_drew)); exact HO0_0.out) gb378 (Nat.le_of_eq hg.symm)) hb); have n1_ := aA (below_step mB hb); have n2_ := aA (hbox); have n3_ := aA ((bZ hg mB)); have n4_ := aA ((bZ hg mB)); clear HO0_0 HB; have HO0_0 := n0_; have HB := n1_; have BK378 := n2_; have GW378 := n3_; have GE378 := n4_; clear n0_ n1_ n2_ n3_ n4_ hb hbox hg) | ((with_reducible refine gate_dst (N := 7) rfl ?_); refine box_event ?hg (N := 7) ?hd (cs := #[.int .i64 a3_0, .int .i64 a3_1]) (t := 45) ?hr ?_; (case hd => rfl); (case hg => rfl); (case hr => first | (go_simp; done) | (go_simp; rfl)); intro gb379 hg w31 hbox hb; have n0_ := aA (Kd.V_below (Kd.V_elderB (by (with_reducible repeat (first | apply Kd.V_alloc | apply Kd.V_drewN | apply Kd.V_drew)); exact HO0_0.out) gb379 (Nat.le_of_eq hg.symm)) hb); have n1_ := aA (bB BK378.out hb); have n2_ := aA (below_step (mD1 GE378.out) hb); have n3_ := aA (hbox); have n4_ := aA ((bZ hg (mD1 GE378.out))); have n5_ := aA ((bZ hg (mD1 GE378.out))); have n6_ := aA ((bL hg BK378.out)); have n7_ := aA ((bG hg BK378.out)); clear HO0_0 BK378 HB; have HO0_0 := n0_; have BK378 := n1_; have HB := n2_; have BK379 := n3_; have GW379 := n4_; have GE379 := n5_; have NB378_379 := n6_; have NB379_378 := n7_; clear n0_ n1_ n2_ n3_ n4_ n5_ n6_ n7_ hb hbox hg) | ((with_reducible refine gate_dst (N := 8) rfl ?_); refine box_event ?hg (N := 8) ?hd (cs := #[.slice none 0 0, .int .i64 0, .int .i64 0, .int .i64 0, .bool false]) (t := 26) ?hr ?_; (case hd => rfl); (case hg => rfl); (case hr => first | (go_simp; done) | (go_simp; rfl)); intro gb380 hg w32 hbox hb; have n0_ := aA (Kd.V_below (Kd.V_elderB (by (with_reducible repeat (first | apply Kd.V_alloc | apply Kd.V_drewN | apply Kd.V_drew)); exact HO0_0.out) gb380 (Nat.le_of_eq hg.symm)) hb); have n1_ := aA (bB BK378.out hb); have n2_ := aA (bB BK379.out hb); have n3_ := aA (below_step (mD2 GE378.out GE379.out) hb); have n4_ := aA (hbox); have n5_ := aA ((bZ hg (mD2 GE378.out GE379.out))); have n6_ := aA ((bZ hg (mD2 GE378.out GE379.out))); have n7_ := aA ((bL hg BK378.out)); have n8_ := aA ((bG hg BK378.out)); have n9_ := aA ((bL hg BK379.out)); have n10_ := aA ((bG hg BK379.out)); clear HO0_0 BK378 BK379 HB; have HO0_0 := n0_; have BK378 := n1_; have BK379 := n2_; have HB := n3_; have BK380 := n4_; have GW380 := n5_; have GE380 := n6_; have NB378_380 := n7_; have NB380_378 := n8_; have NB379_380 := n9_; have NB380_379 := n10_; clear n0_ n1_ n2_ n3_ n4_ n5_ n6_ n7_ n8_ n9_ n10_ hb hbox hg; have hnb33 := NB379_378.out; have hnc33 := NB378_379.out; have hnb34 := NB379_380.out; have hnc34 := NB380_379.out; obtain ⟨hcz35_0, hcz35_1⟩ := bC2 BK379.out; obtain ⟨hfz35_0, hfz35_1⟩ := bF2 BK379.out; have hnb36 := NB378_380.out; have hnc36 := NB380_378.out; obtain ⟨hcz37_0, hcz37_1, hcz37_2, hcz37_3, hcz37_4⟩ := bC5 BK378.out; obtain ⟨hfz37_0, hfz37_1, hfz37_2, hfz37_3, hfz37_4⟩ := bF5 BK378.out) | ((with_reducible refine gate_callee (f := 40) rfl ?_); refine goesL_ (some 31) rfl rfl Try.func40 (by kernel_rfl) rfl #[.agg #[.slice A0_0 l0_0.length c0_0], .int .i64 a1, .string a2] rfl mS ?_; (with_reducible refine (foghornref02_Write.calls k _ _ l0_0 a1 a2 t384 _ ?side1 ?side2 A29.out).mono ?_); (case side1 => exact mC ((Kd.V_reads' HO0_0.out).2.2)); (case side2 => exact (Kd.V_reads' HO0_0.out).2.1); rintro e w38 ⟨v385, rfl, ho0, hb⟩; refine ⟨_, rfl, ?_⟩; have n0_ := aA (Kd.V_elder' (by (with_reducible repeat (first | apply Kd.V_alloc | apply Kd.V_drewN | apply Kd.V_drew)); exact HO0_0.out) (Kd.R_base ho0) hb); have n1_ := aA (Kd.R_lower (Kd.R_newM (M := fun k_ => (w.heap.size ≤ k_)) ho0 (below_size (mD3 GE378.out GE379.out GE380.out)) (fun k_ h_ => h_)) (below_size (mD3 GE378.out GE379.out GE380.out))); have n2_ := aA (bB BK378.out hb); have n3_ := aA (bB BK379.out hb); have n4_ := aA (bB BK380.out hb); have n5_ := aA (below_step (mD3 GE378.out GE379.out GE380.out) hb); clear HO0_0 BK378 BK379 BK380 HB; have HO0_0 := n0_; have HO386 := n1_; have BK378 := n2_; have BK379 := n3_; have BK380 := n4_; have HB := n5_; clear n0_ n1_ n2_ n3_ n4_ n5_; (try clear hb); (try clear hb2); (try clear hk); (try clear hi); (try clear ho0); obtain ⟨Ao39, co39, eo39⟩ := Kd.R_slice HO386.out; subst eo39; obtain ⟨hcz40_0, hcz40_1, hcz40_2, hcz40_3, hcz40_4⟩ := bC5 BK378.out; obtain ⟨hfz40_0, hfz40_1, hfz40_2, hfz40_3, hfz40_4⟩ := bF5 BK378.out; obtain ⟨hcz41_0, hcz41_1, hcz41_2, hcz41_3, hcz41_4⟩ := bC5 BK380.out; obtain ⟨hfz41_0, hfz41_1, hfz41_2, hfz41_3, hfz41_4⟩ := bF5 BK380.out))
   refine bodyPost_ret (results_ct rfl _ _ gb380 26 #[.slice Ao39 t384.length co39, .int .i64 a0_1, .int .i64 a0_2, .int .i64 a0_3, .bool a0_4] (0, 0) _ rfl (by (with_reducible repeat (first | refine blk_drewN ?_ _ | refine blk_drew ?_ | refine blk_alloc ?_ _)); refine blk_put (cs := #[.slice Ao39 t384.length co39, .int .i64 a0_1, .int .i64 a0_2, .int .i64 a0_3, .bool false]) ?_ 4 _ rfl; (with_reducible repeat (first | refine blk_drewN ?_ _ | refine blk_drew ?_ | refine blk_alloc ?_ _)); refine blk_put (cs := #[.slice Ao39 t384.length co39, .int .i64 a0_1, .int .i64 a0_2, .int .i64 0, .bool false]) ?_ 3 _ rfl; (with_reducible repeat (first | refine blk_drewN ?_ _ | refine blk_drew ?_ | refine blk_alloc ?_ _)); refine blk_put (cs := #[.slice Ao39 t384.length co39, .int .i64 a0_1, .int .i64 0, .int .i64 0, .bool false]) ?_ 2 _ rfl; (with_reducible repeat (first | refine blk_drewN ?_ _ | refine blk_drew ?_ | refine blk_alloc ?_ _)); refine blk_put (cs := #[.slice Ao39 t384.length co39, .int .i64 0, .int .i64 0, .int .i64 0, .bool false]) ?_ 1 _ rfl; (with_reducible repeat (first | refine blk_drewN ?_ _ | refine blk_drew ?_ | refine blk_alloc ?_ _)); refine blk_put (cs := #[.slice none 0 0, .int .i64 0, .int .i64 0, .int .i64 0, .bool false]) ?_ 0 _ rfl; (with_reducible repeat (first | refine blk_drewN ?_ _ | refine blk_drew ?_ | refine blk_alloc ?_ _)); refine blk_far ?_ NB380_378.out _; (with_reducible repeat (first | refine blk_drewN ?_ _ | refine blk_drew ?_ | refine blk_alloc ?_ _)); exact BK380.out) Try.underlying26 rfl (by kernel_rfl)) rfl ?_
   exact ⟨_, by first | rfl | (simp [errW_none, errW_some] <;> rfl) | (simp [*, errW_none, errW_some] <;> rfl), Kd.V_mono (Kd.R_V (by (with_reducible repeat (first | apply Kd.R_alloc | apply Kd.R_drewN | apply Kd.R_drew)); exact Kd.R_mono (rF 4 (rF 3 (rF 2 (rF 1 (rF 0 (Kd.R_far (p := ⟨gb378, 0, none⟩) (Kd.R_types (Kd.R_types HO386.out BK378.out (by decide)) BK380.out (by decide)) (fun _ hk => hk.1.2) (.slice Ao39 t384.length co39))))))) (fun _ hk => hk.1.1.1))) (fun k_ hk => by first | exact ⟨(.inr (hk.1)), hk.2⟩ | exact (.inr (hk))), by repeat (first | (with_reducible first | exact HB.out | apply below_alloc | apply pw_below_drewN | apply below_drew1 | refine below_set ?_ GE378.out | refine below_set ?_ GE379.out | refine below_set ?_ GE380.out) | exact HB.out)⟩
end Go.Proofs.YtopaddpclipnjaaQ.P
