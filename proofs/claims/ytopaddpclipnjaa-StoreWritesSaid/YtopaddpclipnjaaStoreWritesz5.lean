/- Part 5 of a proof: contracts and plain laws of what the statement reaches. No condition. -/
import Derived.Test.YtopaddpclipnjaaStoreWritesz1
import Derived.Test.YtopaddpclipnjaaStoreWritesz2
import Derived.Test.YtopaddpclipnjaaStoreWritesz4
set_option linter.unusedVariables false
set_option linter.unusedSimpArgs false
namespace Go.Proofs.YtopaddpclipnjaaQ.P
open Go.RowKit Go.Proofs.YtopaddpclipnjaaW.PrintWords Go.Proofs.YtopaddpclipnjaaW.PrintLast Go.Proofs.YtopaddpclipnjaaW.PrintMore
attribute [local go_sem] max2_int min2_int max_two min_two max_three min_three max_four min_four
def foghornref04_Append.f (k : Nat) (l0_0 : List ByteArray) (a0_1 : Int) (a0_2 : Int) (a0_3 : Int) (a0_4 : Bool) (a1 : ByteArray) (a2_0 : Int) (a2_1 : Int) : Option (List ByteArray × Int × Int × Int × Bool × Int) := (foghornref04_place.f l0_0 a0_1 a0_2).bind fun t390 => ((foghornref03_Seal.f a0_1 (wrap64 (a0_2 + 1)) a1).bind fun t391 => ((foghornref04_write.f k l0_0 a0_1 a0_2 a0_3 a0_4 t390 t391 a2_0 a2_1).bind fun bt392 => (if bt392.2.2.2.2.2 = 0 then (some (bt392.1, bt392.2.1, wrap64 (a0_2 + 1), bt392.2.2.2.1, bt392.2.2.2.2.1, bt392.2.2.2.2.2)) else (some (bt392.1, bt392.2.1, bt392.2.2.1, bt392.2.2.2.1, bt392.2.2.2.2.1, bt392.2.2.2.2.2)))))
theorem foghornref04_Append.mono : ∀ a0 a1 a2 a3 a4 a5 a6 a7 k, LeO (foghornref04_Append.f k a0 a1 a2 a3 a4 a5 a6 a7) (foghornref04_Append.f (k + 1) a0 a1 a2 a3 a4 a5 a6 a7) := by
 intro a0 a1 a2 a3 a4 a5 a6 a7 k
 unfold foghornref04_Append.f
 repeat' first
   | (with_reducible exact foghornref04_write.mono _ _ _ _ _ _ _ _ _ _)
   | (with_reducible exact LeO.refl _)
   | (with_reducible exact LeO.none _)
   | (with_reducible refine LeO.ite ?_ ?_)
   | (with_reducible refine LeO.bind ?_ (fun _ => ?_))
   | exact foghornref04_write.mono _ _ _ _ _ _ _ _ _ _
   | exact LeO.none _
   | refine LeO.ite ?_ ?_
   | refine LeO.bind ?_ (fun _ => ?_)
def foghornref04_Append.T1 : Bool × List (List Nat × List Nat) := (true, [([], []), ([], []), ([1], [1]), ([], []), ([3], [3]), ([], []), ([5], [5]), ([2, 4, 6], [2, 4, 6]), ([], []), ([8], [8]), ([], []), ([10], [10]), ([11], [11]), ([], []), ([9, 12, 13, 7], [9, 12, 13]), ([], []), ([0, 7, 14, 15, 14], [0, 7, 14, 15]), ([16], [16]), ([17], [17]), ([17], [17]), ([], []), ([20, 18, 16, 0, 1, 2, 3, 4, 5, 6, 7, 8, 9, 10, 11, 12, 13, 14, 15, 16, 17, 18, 20], [18, 20]), ([19, 21, 0, 1, 2, 3, 4, 5, 6, 7, 8, 9, 10, 11, 12, 13, 14, 15, 16, 17, 18, 19, 20, 21], [19])])
def foghornref04_Append.B1 : List Nat := [0, 0, 2, 0, 8, 0, 32, 126, 0, 256, 0, 1024, 3072, 0, 16382, 0, 65535, 131071, 262143, 262143, 0, 1572863, 4194303]
theorem foghornref04_Append.tab1 : rtab .any (opsOf Try.f25 1) = foghornref04_Append.T1 := by kernel_rfl
theorem foghornref04_Append.bits1 : waitsOk foghornref04_Append.T1.2 foghornref04_Append.B1 = true := by kernel_rfl
set_option maxHeartbeats 8000000 in
set_option maxRecDepth 100000 in
theorem foghornref04_Append.calls (k : Nat) (P0_0_ : Nat → Prop) (A0_0 : Option Addr) (c0_0 : Nat) (l0_0 : List ByteArray) (a0_1 : Int) (a0_2 : Int) (a0_3 : Int) (a0_4 : Bool) (a1 : ByteArray) (a2_0 : Int) (a2_1 : Int) (r1 : List ByteArray) (r2 : Int) (r3 : Int) (r4 : Int) (r5 : Bool) (r6 : Int) (w : World) (hs0_0 : Kd.V Kd.string 9 w w.heap.size (fun k_ => P0_0_ k_) (.slice A0_0 l0_0.length c0_0) l0_0) (h : foghornref04_Append.f k l0_0 a0_1 a0_2 a0_3 a0_4 a1 a2_0 a2_1 = some (r1, r2, r3, r4, r5, r6)) :
  Calls Try.prog 25 #[.agg #[.slice A0_0 l0_0.length c0_0, .int .i64 a0_1, .int .i64 a0_2, .int .i64 a0_3, .bool a0_4], .string a1, .agg #[.int .i64 a2_0, .int .i64 a2_1]] w fun e w' => ∃ v0_ : Value, e = .returned (.tuple #[.agg #[v0_, .int .i64 r2, .int .i64 r3, .int .i64 r4, .bool r5], .int .i64 r6]) ∧ Kd.V Kd.string 9 w' w.heap.size (fun k_ => (P0_0_ k_ ∨ w.heap.size ≤ k_)) v0_ r1 ∧ Below w.heap.size w w' := by
 have hu26 := Try.underlying26
 have hu45 := Try.underlying45
 have hu24 := Try.underlying24
 have HO0_0 := aA (show Kd.V Kd.string 9 w w.heap.size (fun k_ => (P0_0_ k_ ∨ w.heap.size ≤ k_)) (.slice A0_0 l0_0.length c0_0) l0_0 from Kd.V_mono hs0_0 (fun k_ hk => .inl hk))
 have HB := aA (Below.refl w.heap.size w)
 have H : ((foghornref04_place.f l0_0 a0_1 a0_2).bind fun t390 => ((foghornref03_Seal.f a0_1 (wrap64 (a0_2 + 1)) a1).bind fun t391 => ((foghornref04_write.f k l0_0 a0_1 a0_2 a0_3 a0_4 t390 t391 a2_0 a2_1).bind fun bt392 => (if bt392.2.2.2.2.2 = 0 then (some (bt392.1, bt392.2.1, wrap64 (a0_2 + 1), bt392.2.2.2.1, bt392.2.2.2.2.1, bt392.2.2.2.2.2)) else (some (bt392.1, bt392.2.1, bt392.2.2.1, bt392.2.2.2.1, bt392.2.2.2.2.1, bt392.2.2.2.2.2)))))) = some (r1, r2, r3, r4, r5, r6) := h
 clear h
 replace H := Option.bind_eq_some_iff.mp H
 obtain ⟨t390, A40, H⟩ := H
 replace H : ((foghornref03_Seal.f a0_1 (wrap64 (a0_2 + 1)) a1).bind fun t391 => ((foghornref04_write.f k l0_0 a0_1 a0_2 a0_3 a0_4 t390 t391 a2_0 a2_1).bind fun bt392 => (if bt392.2.2.2.2.2 = 0 then (some (bt392.1, bt392.2.1, wrap64 (a0_2 + 1), bt392.2.2.2.1, bt392.2.2.2.2.1, bt392.2.2.2.2.2)) else (some (bt392.1, bt392.2.1, bt392.2.2.1, bt392.2.2.2.1, bt392.2.2.2.2.1, bt392.2.2.2.2.2))))) = some (r1, r2, r3, r4, r5, r6) := H
 have A4 := aA A40
 clear A40
 replace H := Option.bind_eq_some_iff.mp H
 obtain ⟨t391, A50, H⟩ := H
 replace H : ((foghornref04_write.f k l0_0 a0_1 a0_2 a0_3 a0_4 t390 t391 a2_0 a2_1).bind fun bt392 => (if bt392.2.2.2.2.2 = 0 then (some (bt392.1, bt392.2.1, wrap64 (a0_2 + 1), bt392.2.2.2.1, bt392.2.2.2.2.1, bt392.2.2.2.2.2)) else (some (bt392.1, bt392.2.1, bt392.2.2.1, bt392.2.2.2.1, bt392.2.2.2.2.1, bt392.2.2.2.2.2)))) = some (r1, r2, r3, r4, r5, r6) := H
 have A5 := aA A50
 clear A50
 replace H := Option.bind_eq_some_iff.mp H
 obtain ⟨⟨t392, t395, t396, t397, t398, t399⟩, A60, H⟩ := H
 replace H : (if t399 = 0 then (some (t392, t395, wrap64 (a0_2 + 1), t397, t398, t399)) else (some (t392, t395, t396, t397, t398, t399))) = some (r1, r2, r3, r4, r5, r6) := H
 have A6 := aA A60
 clear A60
 by_cases c7 : t399 = 0
 ·rw [if_pos c7] at H
  have c7b0 : (t399 == 0) = true := beq_iff_eq.mpr c7
  have c7b1 : (t399 != 0) = false := bne_eq_false_iff_eq.mpr c7
  clear c7
  simp only [Option.some.injEq, Prod.mk.injEq] at H
  obtain ⟨rfl, rfl, rfl, rfl, rfl, rfl⟩ := H
  go_enter Try.func25, Try.ntmps25
  try go_wp2_with (first | ((with_reducible refine gate_dst (N := 3) rfl ?_); refine box_event ?hg (N := 3) ?hd (cs := #[.slice A0_0 l0_0.length c0_0, .int .i64 a0_1, .int .i64 a0_2, .int .i64 a0_3, .bool a0_4]) (t := 26) ?hr ?_; (case hd => rfl); (case hg => rfl); (case hr => first | (go_simp; done) | (go_simp; rfl)); intro gb387 hg w8 hbox hb; have n0_ := aA (Kd.V_below (Kd.V_elderB (by (with_reducible repeat (first | apply Kd.V_alloc | apply Kd.V_drewN | apply Kd.V_drew)); exact HO0_0.out) gb387 (Nat.le_of_eq hg.symm)) hb); have n1_ := aA (below_step mB hb); have n2_ := aA (hbox); have n3_ := aA ((bZ hg mB)); have n4_ := aA ((bZ hg mB)); clear HO0_0 HB; have HO0_0 := n0_; have HB := n1_; have BK387 := n2_; have GW387 := n3_; have GE387 := n4_; clear n0_ n1_ n2_ n3_ n4_ hb hbox hg) | ((with_reducible refine gate_dst (N := 5) rfl ?_); refine box_event ?hg (N := 5) ?hd (cs := #[.int .i64 a2_0, .int .i64 a2_1]) (t := 45) ?hr ?_; (case hd => rfl); (case hg => rfl); (case hr => first | (go_simp; done) | (go_simp; rfl)); intro gb388 hg w9 hbox hb; have n0_ := aA (Kd.V_below (Kd.V_elderB (by (with_reducible repeat (first | apply Kd.V_alloc | apply Kd.V_drewN | apply Kd.V_drew)); exact HO0_0.out) gb388 (Nat.le_of_eq hg.symm)) hb); have n1_ := aA (bB BK387.out hb); have n2_ := aA (below_step (mD1 GE387.out) hb); have n3_ := aA (hbox); have n4_ := aA ((bZ hg (mD1 GE387.out))); have n5_ := aA ((bZ hg (mD1 GE387.out))); have n6_ := aA ((bL hg BK387.out)); have n7_ := aA ((bG hg BK387.out)); clear HO0_0 BK387 HB; have HO0_0 := n0_; have BK387 := n1_; have HB := n2_; have BK388 := n3_; have GW388 := n4_; have GE388 := n5_; have NB387_388 := n6_; have NB388_387 := n7_; clear n0_ n1_ n2_ n3_ n4_ n5_ n6_ n7_ hb hbox hg) | ((with_reducible refine gate_dst (N := 6) rfl ?_); refine box_event ?hg (N := 6) ?hd (cs := #[.slice none 0 0, .int .i64 0, .int .i64 0, .int .i64 0, .bool false]) (t := 26) ?hr ?_; (case hd => rfl); (case hg => rfl); (case hr => first | (go_simp; done) | (go_simp; rfl)); intro gb389 hg w10 hbox hb; have n0_ := aA (Kd.V_below (Kd.V_elderB (by (with_reducible repeat (first | apply Kd.V_alloc | apply Kd.V_drewN | apply Kd.V_drew)); exact HO0_0.out) gb389 (Nat.le_of_eq hg.symm)) hb); have n1_ := aA (bB BK387.out hb); have n2_ := aA (bB BK388.out hb); have n3_ := aA (below_step (mD2 GE387.out GE388.out) hb); have n4_ := aA (hbox); have n5_ := aA ((bZ hg (mD2 GE387.out GE388.out))); have n6_ := aA ((bZ hg (mD2 GE387.out GE388.out))); have n7_ := aA ((bL hg BK387.out)); have n8_ := aA ((bG hg BK387.out)); have n9_ := aA ((bL hg BK388.out)); have n10_ := aA ((bG hg BK388.out)); clear HO0_0 BK387 BK388 HB; have HO0_0 := n0_; have BK387 := n1_; have BK388 := n2_; have HB := n3_; have BK389 := n4_; have GW389 := n5_; have GE389 := n6_; have NB387_389 := n7_; have NB389_387 := n8_; have NB388_389 := n9_; have NB389_388 := n10_; clear n0_ n1_ n2_ n3_ n4_ n5_ n6_ n7_ n8_ n9_ n10_ hb hbox hg))
  have n0_ := aA (Kd.V_drew HO0_0.out)
  have n1_ := aA (blk_drew BK387.out)
  have n2_ := aA (blk_drew BK388.out)
  have n3_ := aA (blk_drew BK389.out)
  have n4_ := aA (below_drew1 HB.out)
  clear HO0_0
  clear BK387
  clear BK388
  clear BK389
  clear HB
  have HO0_0 := n0_
  have BK387 := n1_
  have BK388 := n2_
  have BK389 := n3_
  have HB := n4_
  clear n0_ n1_ n2_ n3_ n4_
  refine start_ (n := 23) (S := fun w' => w'.cell? ⟨gb387, 0, none⟩ = some (.slice A0_0 l0_0.length c0_0) ∧ w'.cell? ⟨gb387, 1, none⟩ = some (.int .i64 a0_1) ∧ w'.cell? ⟨gb387, 2, none⟩ = some (.int .i64 a0_2) ∧ w'.cell? ⟨gb387, 3, none⟩ = some (.int .i64 a0_3) ∧ w'.cell? ⟨gb387, 4, none⟩ = some (.bool a0_4) ∧ w'.cell? ⟨gb388, 0, none⟩ = some (.int .i64 a2_0) ∧ w'.cell? ⟨gb388, 1, none⟩ = some (.int .i64 a2_1)) (ds := []) (bA 23 0) (by kernel_rfl) rfl rfl ⟨(blk_cell BK387.out 0).trans rfl, (blk_cell BK387.out 1).trans rfl, (blk_cell BK387.out 2).trans rfl, (blk_cell BK387.out 3).trans rfl, (blk_cell BK387.out 4).trans rfl, (blk_cell BK388.out 0).trans rfl, (blk_cell BK388.out 1).trans rfl⟩ (fun hHeld => ?_); refine with_tabW foghornref04_Append.tab1 foghornref04_Append.bits1 (fun HT_ HW_ => ?_)
  generalize w10.drew = w11 at HO0_0 BK387 BK388 BK389 HB hHeld ⊢
  refine pure_ (i := 1) (N := some 12) (v := ?_) (a' := ?_) (bA 23 2) rfl rfl (any_of HT_.out (by kernel_rfl)) (fun _ _ _ h => h) (Or.inl ⟨by rfl, ?_⟩) ?_ ?_
  rotate_left
  ·intro w'
   go_simp
   with_reducible rfl
  rotate_left
  ·exact mP
  refine pure_ (i := 3) (N := some 14) (v := ?_) (a' := ?_) (bA 23 10) rfl rfl (any_of HT_.out (by kernel_rfl)) (fun _ _ _ h => h) (Or.inl ⟨by rfl, ?_⟩) ?_ ?_
  rotate_left
  ·intro w'
   go_simp
   with_reducible rfl
  rotate_left
  ·exact mP
  refine pure_ (i := 5) (N := some 16) (v := ?_) (a' := ?_) (bA 23 42) rfl rfl (any_of HT_.out (by kernel_rfl)) (fun _ _ _ h => h) (Or.inl ⟨by rfl, ?_⟩) ?_ ?_
  rotate_left
  ·intro w'
   go_simp
   with_reducible rfl
  rotate_left
  ·exact mP
  refine pure_ (i := 8) (N := some 19) (v := ?_) (a' := ?_) (bA 23 298) rfl rfl (any_of HT_.out (by kernel_rfl)) (fun _ _ _ h => h) (Or.inl ⟨by rfl, ?_⟩) ?_ ?_
  rotate_left
  ·intro w'
   go_simp
   with_reducible rfl
  rotate_left
  ·exact mP
  refine pure_ (i := 10) (N := some 21) (v := ?_) (a' := ?_) (bA 23 1322) rfl rfl (any_of HT_.out (by kernel_rfl)) (fun _ _ _ h => h) (Or.inl ⟨by rfl, ?_⟩) ?_ ?_
  rotate_left
  ·intro w'
   go_simp
   with_reducible rfl
  rotate_left
  ·exact mP
  refine pure_ (i := 13) (N := some 24) (v := ?_) (a' := ?_) (bA 23 9514) rfl rfl (any_of HT_.out (by kernel_rfl)) (fun _ _ _ h => h) (Or.inl ⟨by rfl, ?_⟩) ?_ ?_
  rotate_left
  ·intro w'
   go_simp
   with_reducible rfl
  rotate_left
  ·exact mP
  refine take_ (i := 0) (N := some 11) (v := ?_) (a' := ?_) (bA 23 9515) rfl rfl (take_ofW HT_.out HW_.out (by kernel_rfl)) (fun _ _ _ h => h) (Or.inl ⟨by rfl, ?_⟩) hHeld ?_ ?_
  rotate_left
  ·rintro w' ⟨s0, s1, s2, s3, s4, s5, s6⟩
   go_simp
   with_reducible rfl
  rotate_left
  ·exact mP
  refine take_ (i := 2) (N := some 13) (v := ?_) (a' := ?_) (bA 23 9519) rfl rfl (take_ofW HT_.out HW_.out (by kernel_rfl)) (fun _ _ _ h => h) (Or.inl ⟨by rfl, ?_⟩) hHeld ?_ ?_
  rotate_left
  ·rintro w' ⟨s0, s1, s2, s3, s4, s5, s6⟩
   go_simp
   with_reducible rfl
  rotate_left
  ·exact mP
  refine take_ (i := 4) (N := some 15) (v := ?_) (a' := ?_) (bA 23 9535) rfl rfl (take_ofW HT_.out HW_.out (by kernel_rfl)) (fun _ _ _ h => h) (Or.inl ⟨by rfl, ?_⟩) hHeld ?_ ?_
  rotate_left
  ·rintro w' ⟨s0, s1, s2, s3, s4, s5, s6⟩
   go_simp
   with_reducible rfl
  rotate_left
  ·exact mP
  refine take_ (i := 6) (N := some 17) (v := ?_) (a' := ?_) (bA 23 9599) rfl rfl (take_ofW HT_.out HW_.out (by kernel_rfl)) (fun _ _ _ h => h) (Or.inl ⟨by rfl, ?_⟩) hHeld ?_ ?_
  rotate_left
  ·rintro w' ⟨s0, s1, s2, s3, s4, s5, s6⟩
   go_simp
   with_reducible rfl
  rotate_left
  ·exact mP
  refine take_ (i := 9) (N := some 20) (v := ?_) (a' := ?_) (bA 23 10111) rfl rfl (take_ofW HT_.out HW_.out (by kernel_rfl)) (fun _ _ _ h => h) (Or.inl ⟨by rfl, ?_⟩) hHeld ?_ ?_
  rotate_left
  ·rintro w' ⟨s0, s1, s2, s3, s4, s5, s6⟩
   go_simp
   with_reducible rfl
  rotate_left
  ·exact mP
  refine take_ (i := 11) (N := some 22) (v := ?_) (a' := ?_) (bA 23 12159) rfl rfl (take_ofW HT_.out HW_.out (by kernel_rfl)) (fun _ _ _ h => h) (Or.inl ⟨by rfl, ?_⟩) hHeld ?_ ?_
  rotate_left
  ·rintro w' ⟨s0, s1, s2, s3, s4, s5, s6⟩
   go_simp
   with_reducible rfl
  rotate_left
  ·exact mP
  refine pure_ (i := 12) (N := some 23) (v := ?_) (a' := ?_) (bA 23 16255) rfl rfl (any_of HT_.out (by kernel_rfl)) (fun _ _ _ h => h) (Or.inl ⟨by rfl, ?_⟩) ?_ ?_
  rotate_left
  ·intro w'
   go_simp
   with_reducible rfl
  rotate_left
  ·exact mP
  refine take_ (i := 15) (N := some 26) (v := ?_) (a' := ?_) (bA 23 49023) rfl rfl (take_ofW HT_.out HW_.out (by kernel_rfl)) (fun _ _ _ h => h) (Or.inl ⟨by rfl, ?_⟩) hHeld ?_ ?_
  rotate_left
  ·rintro w' ⟨s0, s1, s2, s3, s4, s5, s6⟩
   go_simp
   with_reducible rfl
  rotate_left
  ·exact mP
  refine join_ (σ := Value × Nat) 2 (bA 23 2097151) (fun s_ => [(18, .int .i64 t390), (25, .string t391), (27, .tuple #[.agg #[s_.1, .int .i64 t395, .int .i64 t396, .int .i64 t397, .bool t398], .int .i64 t399]), (8, .pointer (some ⟨s_.2, 0, none⟩)), (10, .tuple #[.agg #[s_.1, .int .i64 t395, .int .i64 t396, .int .i64 t397, .bool t398], .int .i64 t399]), (28, .agg #[s_.1, .int .i64 t395, .int .i64 t396, .int .i64 t397, .bool t398]), (29, .int .i64 t399)]) (fun s_ w' => (w'.cell? ⟨gb387, 0, none⟩ = some (.slice A0_0 l0_0.length c0_0) ∧ w'.cell? ⟨gb387, 1, none⟩ = some (.int .i64 a0_1) ∧ w'.cell? ⟨gb387, 2, none⟩ = some (.int .i64 a0_2) ∧ w'.cell? ⟨gb387, 3, none⟩ = some (.int .i64 a0_3) ∧ w'.cell? ⟨gb387, 4, none⟩ = some (.bool a0_4) ∧ w'.cell? ⟨gb388, 0, none⟩ = some (.int .i64 a2_0) ∧ w'.cell? ⟨gb388, 1, none⟩ = some (.int .i64 a2_1)) ∧ (Kd.V Kd.string 9 w' w.heap.size (fun k_ => (P0_0_ k_ ∨ w.heap.size ≤ k_) ∧ k_ ≠ gb387 ∧ k_ ≠ gb388 ∧ k_ ≠ gb389 ∧ k_ ≠ s_.2) (.slice A0_0 l0_0.length c0_0) l0_0) ∧ (Kd.V Kd.string 9 w' w.heap.size (fun k_ => (P0_0_ k_ ∨ w.heap.size ≤ k_) ∧ k_ ≠ gb387 ∧ k_ ≠ gb388 ∧ k_ ≠ gb389 ∧ k_ ≠ s_.2) s_.1 t392) ∧ (w'.heap[gb387]? = some (.cells #[.slice A0_0 l0_0.length c0_0, .int .i64 a0_1, .int .i64 a0_2, .int .i64 a0_3, .bool a0_4] 26 (0, 0))) ∧ (w'.heap[gb388]? = some (.cells #[.int .i64 a2_0, .int .i64 a2_1] 45 (0, 0))) ∧ (w'.heap[gb389]? = some (.cells #[.slice none 0 0, .int .i64 0, .int .i64 0, .int .i64 0, .bool false] 26 (0, 0))) ∧ (w'.heap[s_.2]? = some (.cells #[.slice none 0 0, .int .i64 0, .int .i64 0, .int .i64 0, .bool false] 26 (0, 0))) ∧ (w.heap.size ≤ s_.2) ∧ (w.heap.size ≤ s_.2) ∧ (gb387 ≠ s_.2) ∧ (s_.2 ≠ gb387) ∧ (gb388 ≠ s_.2) ∧ (s_.2 ≠ gb388) ∧ (gb389 ≠ s_.2) ∧ (s_.2 ≠ gb389) ∧ (Below w.heap.size w w')) ?_ ?_
  rotate_left
  ·intro hCont
   refine two_ (i := 7) (j := 20) (Ni := some 18) (Nj := some 8) (bA 23 49151) (bA 23 1097599) rfl rfl rfl rfl (two_of HT_.out (by kernel_rfl)) (by decide) (by decide) (fun K hK => ?_) (fun K hK => ?_)
   ·skip
    refine goes_ Try.func46 (by kernel_rfl) rfl #[.agg #[.slice A0_0 l0_0.length c0_0], .int .i64 a0_1, .int .i64 a0_2] (by rfl) rfl rfl mS ?_
    with_reducible refine (foghornref04_place.calls _ _ l0_0 a0_1 a0_2 t390 _ ?side1 ?side2 A4.out).mono ?_
    (case side1 => exact mC ((Kd.V_reads' HO0_0.out).2.2))
    (case side2 => exact (Kd.V_reads' HO0_0.out).2.1)
    rintro e w12 ⟨rfl, hb⟩
    refine ⟨_, rfl, ?_⟩
    have n0_ := aA (Kd.V_below (by (with_reducible repeat (first | apply Kd.V_alloc | apply Kd.V_drewN | apply Kd.V_drew)); exact HO0_0.out) hb)
    have n1_ := aA (bB BK387.out hb)
    have n2_ := aA (bB BK388.out hb)
    have n3_ := aA (bB BK389.out hb)
    have n4_ := aA (below_step (mD3 GE387.out GE388.out GE389.out) hb)
    clear HO0_0
    clear BK387
    clear BK388
    clear BK389
    clear HB
    have HO0_0 := n0_
    have BK387 := n1_
    have BK388 := n2_
    have BK389 := n3_
    have HB := n4_
    clear n0_ n1_ n2_ n3_ n4_
    (try clear hb)
    (try clear hb2)
    (try clear hk)
    (try clear hi)
    refine hK.out _ _ ⟨(blk_cell BK387.out 0).trans rfl, (blk_cell BK387.out 1).trans rfl, (blk_cell BK387.out 2).trans rfl, (blk_cell BK387.out 3).trans rfl, (blk_cell BK387.out 4).trans rfl, (blk_cell BK388.out 0).trans rfl, (blk_cell BK388.out 1).trans rfl⟩ (fun hHeld => ?_)
    clear hK K
    refine norm_ (a' := ?_) ?_ ?_
    rotate_left
    ·show Act.put _ (some 18) _ = _
     simp only [Act.put, List.setIfInBounds_toArray, List.set_cons_zero, List.set_cons_succ, i64_w, i32_w]
     rfl
    refine two_ (i := 14) (j := 20) (Ni := some 25) (Nj := some 8) (bA 23 65535) (bA 23 1097727) rfl rfl rfl rfl (two_of HT_.out (by kernel_rfl)) (by decide) (by decide) (fun K hK => ?_) (fun K hK => ?_)
    ·skip
     refine goes_ Try.func42 (by kernel_rfl) rfl #[.int .i64 a0_1, .int .i64 (wrap64 (a0_2 + 1)), .string a1] (by rfl) rfl rfl mS ?_
     with_reducible refine (foghornref03_Seal.calls a0_1 (wrap64 (a0_2 + 1)) a1 t391 _ A5.out).mono ?_
     rintro e w13 ⟨rfl, hb⟩
     refine ⟨_, rfl, ?_⟩
     have n0_ := aA (Kd.V_below (by (with_reducible repeat (first | apply Kd.V_alloc | apply Kd.V_drewN | apply Kd.V_drew)); exact HO0_0.out) hb)
     have n1_ := aA (bB BK387.out hb)
     have n2_ := aA (bB BK388.out hb)
     have n3_ := aA (bB BK389.out hb)
     have n4_ := aA (below_step (mD3 GE387.out GE388.out GE389.out) hb)
     clear HO0_0
     clear BK387
     clear BK388
     clear BK389
     clear HB
     have HO0_0 := n0_
     have BK387 := n1_
     have BK388 := n2_
     have BK389 := n3_
     have HB := n4_
     clear n0_ n1_ n2_ n3_ n4_
     (try clear hb)
     (try clear hb2)
     (try clear hk)
     (try clear hi)
     refine hK.out _ _ ⟨(blk_cell BK387.out 0).trans rfl, (blk_cell BK387.out 1).trans rfl, (blk_cell BK387.out 2).trans rfl, (blk_cell BK387.out 3).trans rfl, (blk_cell BK387.out 4).trans rfl, (blk_cell BK388.out 0).trans rfl, (blk_cell BK388.out 1).trans rfl⟩ (fun hHeld => ?_)
     clear hK K
     refine norm_ (a' := ?_) ?_ ?_
     rotate_left
     ·show Act.put _ (some 25) _ = _
      simp only [Act.put, List.setIfInBounds_toArray, List.set_cons_zero, List.set_cons_succ, i64_w, i32_w]
      rfl
     refine two_ (i := 16) (j := 20) (Ni := some 27) (Nj := some 8) (bA 23 131071) (bA 23 1114111) rfl rfl rfl rfl (two_of HT_.out (by kernel_rfl)) (by decide) (by decide) (fun K hK => ?_) (fun K hK => ?_)
     ·skip
      refine goes_ Try.func53 (by kernel_rfl) rfl #[.agg #[.slice A0_0 l0_0.length c0_0, .int .i64 a0_1, .int .i64 a0_2, .int .i64 a0_3, .bool a0_4], .int .i64 t390, .string t391, .agg #[.int .i64 a2_0, .int .i64 a2_1]] (by rfl) rfl rfl mS ?_
      with_reducible refine (foghornref04_write.calls k (fun k_ => ((((P0_0_ k_ ∨ w.heap.size ≤ k_) ∧ k_ ≠ gb387) ∧ k_ ≠ gb388) ∧ k_ ≠ gb389)) _ _ l0_0 a0_1 a0_2 a0_3 a0_4 t390 t391 a2_0 a2_1 t392 t395 t396 t397 t398 t399 _ ?side1 A6.out).mono ?_
      (case side1 => exact HO0_0.out)
      rintro e w14 ⟨v393, rfl, ho0, hb⟩
      refine ⟨_, rfl, ?_⟩
      have n0_ := aA (Kd.V_below (by (with_reducible repeat (first | apply Kd.V_alloc | apply Kd.V_drewN | apply Kd.V_drew)); exact HO0_0.out) hb)
      have n1_ := aA (Kd.V_lower (Kd.V_mono (ok' := fun k_ => (P0_0_ k_ ∨ w.heap.size ≤ k_) ∧ k_ ≠ gb387 ∧ k_ ≠ gb388 ∧ k_ ≠ gb389) ho0 (fun k_ hk_ => ⟨Or.elim hk_ (fun hs_ => hs_.1.1.1) (fun hn_ => (.inr (Nat.le_trans (below_size (mD3 GE387.out GE388.out GE389.out)) hn_))), Or.elim hk_ (fun hs_ => hs_.1.1.2) (fun hn_ => (Kd.freshB (g := gb387) (o := .cells #[.slice A0_0 l0_0.length c0_0, .int .i64 a0_1, .int .i64 a0_2, .int .i64 a0_3, .bool a0_4] 26 (0, 0)) (mK BK387.out) k_ hn_)), Or.elim hk_ (fun hs_ => hs_.1.2) (fun hn_ => (Kd.freshB (g := gb388) (o := .cells #[.int .i64 a2_0, .int .i64 a2_1] 45 (0, 0)) (mK BK388.out) k_ hn_)), Or.elim hk_ (fun hs_ => hs_.2) (fun hn_ => (Kd.freshB (g := gb389) (o := .cells #[.slice none 0 0, .int .i64 0, .int .i64 0, .int .i64 0, .bool false] 26 (0, 0)) (mK BK389.out) k_ hn_))⟩)) (below_size (mD3 GE387.out GE388.out GE389.out)))
      have n2_ := aA (bB BK387.out hb)
      have n3_ := aA (bB BK388.out hb)
      have n4_ := aA (bB BK389.out hb)
      have n5_ := aA (below_step (mD3 GE387.out GE388.out GE389.out) hb)
      clear HO0_0
      clear BK387
      clear BK388
      clear BK389
      clear HB
      have HO0_0 := n0_
      have HO394 := n1_
      have BK387 := n2_
      have BK388 := n3_
      have BK389 := n4_
      have HB := n5_
      clear n0_ n1_ n2_ n3_ n4_ n5_
      (try clear hb)
      (try clear hb2)
      (try clear hk)
      (try clear hi)
      (try clear ho0)
      refine hK.out _ _ ⟨(blk_cell BK387.out 0).trans rfl, (blk_cell BK387.out 1).trans rfl, (blk_cell BK387.out 2).trans rfl, (blk_cell BK387.out 3).trans rfl, (blk_cell BK387.out 4).trans rfl, (blk_cell BK388.out 0).trans rfl, (blk_cell BK388.out 1).trans rfl⟩ (fun hHeld => ?_)
      clear hK K
      refine norm_ (a' := ?_) ?_ ?_
      rotate_left
      ·show Act.put _ (some 27) _ = _
       simp only [Act.put, List.setIfInBounds_toArray, List.set_cons_zero, List.set_cons_succ, i64_w, i32_w]
       rfl
      refine pure_ (i := 17) (N := some 10) (v := ?_) (a' := ?_) (bA 23 262143) rfl rfl (any_of HT_.out (by kernel_rfl)) (fun _ _ _ h => h) (Or.inl ⟨by rfl, ?_⟩) ?_ ?_
      rotate_left
      ·intro w'
       go_simp
       with_reducible rfl
      rotate_left
      ·exact mP
      refine pure_ (i := 18) (N := some 28) (v := ?_) (a' := ?_) (bA 23 524287) rfl rfl (any_of HT_.out (by kernel_rfl)) (fun _ _ _ h => h) (Or.inl ⟨by rfl, ?_⟩) ?_ ?_
      rotate_left
      ·intro w'
       go_simp
       with_reducible rfl
      rotate_left
      ·exact mP
      refine pure_ (i := 19) (N := some 29) (v := ?_) (a' := ?_) (bA 23 1048575) rfl rfl (any_of HT_.out (by kernel_rfl)) (fun _ _ _ h => h) (Or.inl ⟨by rfl, ?_⟩) ?_ ?_
      rotate_left
      ·intro w'
       go_simp
       with_reducible rfl
      rotate_left
      ·exact mP
      refine one_ (i := 20) (N := some 8) (bA 23 2097151) rfl rfl (one_of HT_.out (by kernel_rfl)) (by decide) (fun K hK => ?_)
      refine box_step ?hg (N := 8) ?hd (cs := #[.slice none 0 0, .int .i64 0, .int .i64 0, .int .i64 0, .bool false]) (t := 26) ?hr ?_; (case hd => rfl); (case hg => rfl); (case hr => first | (go_simp; done) | (go_simp; rfl))
      intro gb400 hg w15 hbox hb
      have n0_ := aA (Kd.V_below (Kd.V_elderB (by (with_reducible repeat (first | apply Kd.V_alloc | apply Kd.V_drewN | apply Kd.V_drew)); exact HO0_0.out) gb400 (Nat.le_of_eq hg.symm)) hb)
      have n1_ := aA (Kd.V_below (Kd.V_elderB (by (with_reducible repeat (first | apply Kd.V_alloc | apply Kd.V_drewN | apply Kd.V_drew)); exact HO394.out) gb400 (Nat.le_of_eq hg.symm)) hb)
      have n2_ := aA (bB BK387.out hb)
      have n3_ := aA (bB BK388.out hb)
      have n4_ := aA (bB BK389.out hb)
      have n5_ := aA (below_step (mD3 GE387.out GE388.out GE389.out) hb)
      have n6_ := aA (hbox)
      have n7_ := aA ((bZ hg (mD3 GE387.out GE388.out GE389.out)))
      have n8_ := aA ((bZ hg (mD3 GE387.out GE388.out GE389.out)))
      have n9_ := aA ((bL hg BK387.out))
      have n10_ := aA ((bG hg BK387.out))
      have n11_ := aA ((bL hg BK388.out))
      have n12_ := aA ((bG hg BK388.out))
      have n13_ := aA ((bL hg BK389.out))
      have n14_ := aA ((bG hg BK389.out))
      clear HO0_0
      clear HO394
      clear BK387
      clear BK388
      clear BK389
      clear HB
      have HO0_0 := n0_
      have HO394 := n1_
      have BK387 := n2_
      have BK388 := n3_
      have BK389 := n4_
      have HB := n5_
      have BK400 := n6_
      have GW400 := n7_
      have GE400 := n8_
      have NB387_400 := n9_
      have NB400_387 := n10_
      have NB388_400 := n11_
      have NB400_388 := n12_
      have NB389_400 := n13_
      have NB400_389 := n14_
      clear n0_ n1_ n2_ n3_ n4_ n5_ n6_ n7_ n8_ n9_ n10_ n11_ n12_ n13_ n14_
      clear hb hbox hg
      refine hK.out _ _ ⟨(blk_cell BK387.out 0).trans rfl, (blk_cell BK387.out 1).trans rfl, (blk_cell BK387.out 2).trans rfl, (blk_cell BK387.out 3).trans rfl, (blk_cell BK387.out 4).trans rfl, (blk_cell BK388.out 0).trans rfl, (blk_cell BK388.out 1).trans rfl⟩ (fun hHeld => ?_)
      clear hK K
      refine norm_ (a' := ?_) ?_ ?_
      rotate_left
      ·show Act.put _ (some 8) _ = _
       simp only [Act.put, List.setIfInBounds_toArray, List.set_cons_zero, List.set_cons_succ, i64_w, i32_w]
       rfl
      exact norm_ (by simp only [putAll, Act.put, List.setIfInBounds_toArray, List.set_cons_zero, List.set_cons_succ]) (hCont (v393, gb400) _ ⟨hHeld, (by (with_reducible repeat (first | apply Kd.V_alloc | apply Kd.V_drewN | apply Kd.V_drew)); exact Kd.V_mono HO0_0.out (fun _ hk => ⟨hk.1.1.1.1, ⟨hk.1.1.1.2, ⟨hk.1.1.2, ⟨hk.1.2, hk.2⟩⟩⟩⟩)), (by (with_reducible repeat (first | apply Kd.V_alloc | apply Kd.V_drewN | apply Kd.V_drew)); exact Kd.V_mono HO394.out (fun _ hk => ⟨hk.1.1, ⟨hk.1.2.1, ⟨hk.1.2.2.1, ⟨hk.1.2.2.2, hk.2⟩⟩⟩⟩)), (mK BK387.out), (mK BK388.out), (mK BK389.out), (mK BK400.out), GW400.out, GE400.out, NB387_400.out, NB400_387.out, NB388_400.out, NB400_388.out, NB389_400.out, NB400_389.out, (by repeat (first | (with_reducible first | exact HB.out | apply below_alloc | apply pw_below_drewN | apply below_drew1 | refine below_set ?_ GE387.out | refine below_set ?_ GE388.out | refine below_set ?_ GE389.out | refine below_set ?_ GE400.out) | exact HB.out))⟩)
     ·skip
      refine box_step ?hg (N := 8) ?hd (cs := #[.slice none 0 0, .int .i64 0, .int .i64 0, .int .i64 0, .bool false]) (t := 26) ?hr ?_; (case hd => rfl); (case hg => rfl); (case hr => first | (go_simp; done) | (go_simp; rfl))
      intro gb400 hg w14 hbox hb
      have n0_ := aA (Kd.V_below (Kd.V_elderB (by (with_reducible repeat (first | apply Kd.V_alloc | apply Kd.V_drewN | apply Kd.V_drew)); exact HO0_0.out) gb400 (Nat.le_of_eq hg.symm)) hb)
      have n1_ := aA (bB BK387.out hb)
      have n2_ := aA (bB BK388.out hb)
      have n3_ := aA (bB BK389.out hb)
      have n4_ := aA (below_step (mD3 GE387.out GE388.out GE389.out) hb)
      have n5_ := aA (hbox)
      have n6_ := aA ((bZ hg (mD3 GE387.out GE388.out GE389.out)))
      have n7_ := aA ((bZ hg (mD3 GE387.out GE388.out GE389.out)))
      have n8_ := aA ((bL hg BK387.out))
      have n9_ := aA ((bG hg BK387.out))
      have n10_ := aA ((bL hg BK388.out))
      have n11_ := aA ((bG hg BK388.out))
      have n12_ := aA ((bL hg BK389.out))
      have n13_ := aA ((bG hg BK389.out))
      clear HO0_0
      clear BK387
      clear BK388
      clear BK389
      clear HB
      have HO0_0 := n0_
      have BK387 := n1_
      have BK388 := n2_
      have BK389 := n3_
      have HB := n4_
      have BK400 := n5_
      have GW400 := n6_
      have GE400 := n7_
      have NB387_400 := n8_
      have NB400_387 := n9_
      have NB388_400 := n10_
      have NB400_388 := n11_
      have NB389_400 := n12_
      have NB400_389 := n13_
      clear n0_ n1_ n2_ n3_ n4_ n5_ n6_ n7_ n8_ n9_ n10_ n11_ n12_ n13_
      clear hb hbox hg
      refine hK.out _ _ ⟨(blk_cell BK387.out 0).trans rfl, (blk_cell BK387.out 1).trans rfl, (blk_cell BK387.out 2).trans rfl, (blk_cell BK387.out 3).trans rfl, (blk_cell BK387.out 4).trans rfl, (blk_cell BK388.out 0).trans rfl, (blk_cell BK388.out 1).trans rfl⟩ (fun hHeld => ?_)
      clear hK K
      refine norm_ (a' := ?_) ?_ ?_
      rotate_left
      ·show Act.put _ (some 8) _ = _
       simp only [Act.put, List.setIfInBounds_toArray, List.set_cons_zero, List.set_cons_succ, i64_w, i32_w]
       rfl
      refine one_ (i := 16) (N := some 27) (bA 23 1179647) rfl rfl (one_of HT_.out (by kernel_rfl)) (by decide) (fun K hK => ?_)
      refine goes_ Try.func53 (by kernel_rfl) rfl #[.agg #[.slice A0_0 l0_0.length c0_0, .int .i64 a0_1, .int .i64 a0_2, .int .i64 a0_3, .bool a0_4], .int .i64 t390, .string t391, .agg #[.int .i64 a2_0, .int .i64 a2_1]] (by rfl) rfl rfl mS ?_
      with_reducible refine (foghornref04_write.calls k (fun k_ => (((((P0_0_ k_ ∨ w.heap.size ≤ k_) ∧ k_ ≠ gb387) ∧ k_ ≠ gb388) ∧ k_ ≠ gb389) ∧ k_ ≠ gb400)) _ _ l0_0 a0_1 a0_2 a0_3 a0_4 t390 t391 a2_0 a2_1 t392 t395 t396 t397 t398 t399 _ ?side1 A6.out).mono ?_
      (case side1 => exact HO0_0.out)
      rintro e w15 ⟨v393, rfl, ho0, hb⟩
      refine ⟨_, rfl, ?_⟩
      have n0_ := aA (Kd.V_below (by (with_reducible repeat (first | apply Kd.V_alloc | apply Kd.V_drewN | apply Kd.V_drew)); exact HO0_0.out) hb)
      have n1_ := aA (Kd.V_lower (Kd.V_mono (ok' := fun k_ => (P0_0_ k_ ∨ w.heap.size ≤ k_) ∧ k_ ≠ gb387 ∧ k_ ≠ gb388 ∧ k_ ≠ gb389 ∧ k_ ≠ gb400) ho0 (fun k_ hk_ => ⟨Or.elim hk_ (fun hs_ => hs_.1.1.1.1) (fun hn_ => (.inr (Nat.le_trans (below_size (by repeat (first | (with_reducible first | exact HB.out | apply below_alloc | apply pw_below_drewN | apply below_drew1 | refine below_set ?_ GE387.out | refine below_set ?_ GE388.out | refine below_set ?_ GE389.out | refine below_set ?_ GE400.out) | exact HB.out))) hn_))), Or.elim hk_ (fun hs_ => hs_.1.1.1.2) (fun hn_ => (Kd.freshB (g := gb387) (o := .cells #[.slice A0_0 l0_0.length c0_0, .int .i64 a0_1, .int .i64 a0_2, .int .i64 a0_3, .bool a0_4] 26 (0, 0)) (mK BK387.out) k_ hn_)), Or.elim hk_ (fun hs_ => hs_.1.1.2) (fun hn_ => (Kd.freshB (g := gb388) (o := .cells #[.int .i64 a2_0, .int .i64 a2_1] 45 (0, 0)) (mK BK388.out) k_ hn_)), Or.elim hk_ (fun hs_ => hs_.1.2) (fun hn_ => (Kd.freshB (g := gb389) (o := .cells #[.slice none 0 0, .int .i64 0, .int .i64 0, .int .i64 0, .bool false] 26 (0, 0)) (mK BK389.out) k_ hn_)), Or.elim hk_ (fun hs_ => hs_.2) (fun hn_ => (Kd.freshB (g := gb400) (o := .cells #[.slice none 0 0, .int .i64 0, .int .i64 0, .int .i64 0, .bool false] 26 (0, 0)) (mK BK400.out) k_ hn_))⟩)) (below_size (by repeat (first | (with_reducible first | exact HB.out | apply below_alloc | apply pw_below_drewN | apply below_drew1 | refine below_set ?_ GE387.out | refine below_set ?_ GE388.out | refine below_set ?_ GE389.out | refine below_set ?_ GE400.out) | exact HB.out))))
      have n2_ := aA (bB BK387.out hb)
      have n3_ := aA (bB BK388.out hb)
      have n4_ := aA (bB BK389.out hb)
      have n5_ := aA (bB BK400.out hb)
      have n6_ := aA (below_step (by repeat (first | (with_reducible first | exact HB.out | apply below_alloc | apply pw_below_drewN | apply below_drew1 | refine below_set ?_ GE387.out | refine below_set ?_ GE388.out | refine below_set ?_ GE389.out | refine below_set ?_ GE400.out) | exact HB.out)) hb)
      clear HO0_0
      clear BK387
      clear BK388
      clear BK389
      clear BK400
      clear HB
      have HO0_0 := n0_
      have HO394 := n1_
      have BK387 := n2_
      have BK388 := n3_
      have BK389 := n4_
      have BK400 := n5_
      have HB := n6_
      clear n0_ n1_ n2_ n3_ n4_ n5_ n6_
      (try clear hb)
      (try clear hb2)
      (try clear hk)
      (try clear hi)
      (try clear ho0)
      refine hK.out _ _ ⟨(blk_cell BK387.out 0).trans rfl, (blk_cell BK387.out 1).trans rfl, (blk_cell BK387.out 2).trans rfl, (blk_cell BK387.out 3).trans rfl, (blk_cell BK387.out 4).trans rfl, (blk_cell BK388.out 0).trans rfl, (blk_cell BK388.out 1).trans rfl⟩ (fun hHeld => ?_)
      clear hK K
      refine norm_ (a' := ?_) ?_ ?_
      rotate_left
      ·show Act.put _ (some 27) _ = _
       simp only [Act.put, List.setIfInBounds_toArray, List.set_cons_zero, List.set_cons_succ, i64_w, i32_w]
       rfl
      refine pure_ (i := 17) (N := some 10) (v := ?_) (a' := ?_) (bA 23 1310719) rfl rfl (any_of HT_.out (by kernel_rfl)) (fun _ _ _ h => h) (Or.inl ⟨by rfl, ?_⟩) ?_ ?_
      rotate_left
      ·intro w'
       go_simp
       with_reducible rfl
      rotate_left
      ·exact mP
      refine pure_ (i := 18) (N := some 28) (v := ?_) (a' := ?_) (bA 23 1572863) rfl rfl (any_of HT_.out (by kernel_rfl)) (fun _ _ _ h => h) (Or.inl ⟨by rfl, ?_⟩) ?_ ?_
      rotate_left
      ·intro w'
       go_simp
       with_reducible rfl
      rotate_left
      ·exact mP
      refine pure_ (i := 19) (N := some 29) (v := ?_) (a' := ?_) (bA 23 2097151) rfl rfl (any_of HT_.out (by kernel_rfl)) (fun _ _ _ h => h) (Or.inl ⟨by rfl, ?_⟩) ?_ ?_
      rotate_left
      ·intro w'
       go_simp
       with_reducible rfl
      rotate_left
      ·exact mP
      exact norm_ (by simp only [putAll, Act.put, List.setIfInBounds_toArray, List.set_cons_zero, List.set_cons_succ]) (hCont (v393, gb400) _ ⟨hHeld, (by (with_reducible repeat (first | apply Kd.V_alloc | apply Kd.V_drewN | apply Kd.V_drew)); exact Kd.V_mono HO0_0.out (fun _ hk => ⟨hk.1.1.1.1, ⟨hk.1.1.1.2, ⟨hk.1.1.2, ⟨hk.1.2, hk.2⟩⟩⟩⟩)), (by (with_reducible repeat (first | apply Kd.V_alloc | apply Kd.V_drewN | apply Kd.V_drew)); exact HO394.out), (mK BK387.out), (mK BK388.out), (mK BK389.out), (mK BK400.out), GW400.out, GE400.out, NB387_400.out, NB400_387.out, NB388_400.out, NB400_388.out, NB389_400.out, NB400_389.out, (by repeat (first | (with_reducible first | exact HB.out | apply below_alloc | apply pw_below_drewN | apply below_drew1 | refine below_set ?_ GE387.out | refine below_set ?_ GE388.out | refine below_set ?_ GE389.out | refine below_set ?_ GE400.out) | exact HB.out))⟩)
    ·skip
     refine box_step ?hg (N := 8) ?hd (cs := #[.slice none 0 0, .int .i64 0, .int .i64 0, .int .i64 0, .bool false]) (t := 26) ?hr ?_; (case hd => rfl); (case hg => rfl); (case hr => first | (go_simp; done) | (go_simp; rfl))
     intro gb400 hg w13 hbox hb
     have n0_ := aA (Kd.V_below (Kd.V_elderB (by (with_reducible repeat (first | apply Kd.V_alloc | apply Kd.V_drewN | apply Kd.V_drew)); exact HO0_0.out) gb400 (Nat.le_of_eq hg.symm)) hb)
     have n1_ := aA (bB BK387.out hb)
     have n2_ := aA (bB BK388.out hb)
     have n3_ := aA (bB BK389.out hb)
     have n4_ := aA (below_step (mD3 GE387.out GE388.out GE389.out) hb)
     have n5_ := aA (hbox)
     have n6_ := aA ((bZ hg (mD3 GE387.out GE388.out GE389.out)))
     have n7_ := aA ((bZ hg (mD3 GE387.out GE388.out GE389.out)))
     have n8_ := aA ((bL hg BK387.out))
     have n9_ := aA ((bG hg BK387.out))
     have n10_ := aA ((bL hg BK388.out))
     have n11_ := aA ((bG hg BK388.out))
     have n12_ := aA ((bL hg BK389.out))
     have n13_ := aA ((bG hg BK389.out))
     clear HO0_0
     clear BK387
     clear BK388
     clear BK389
     clear HB
     have HO0_0 := n0_
     have BK387 := n1_
     have BK388 := n2_
     have BK389 := n3_
     have HB := n4_
     have BK400 := n5_
     have GW400 := n6_
     have GE400 := n7_
     have NB387_400 := n8_
     have NB400_387 := n9_
     have NB388_400 := n10_
     have NB400_388 := n11_
     have NB389_400 := n12_
     have NB400_389 := n13_
     clear n0_ n1_ n2_ n3_ n4_ n5_ n6_ n7_ n8_ n9_ n10_ n11_ n12_ n13_
     clear hb hbox hg
     refine hK.out _ _ ⟨(blk_cell BK387.out 0).trans rfl, (blk_cell BK387.out 1).trans rfl, (blk_cell BK387.out 2).trans rfl, (blk_cell BK387.out 3).trans rfl, (blk_cell BK387.out 4).trans rfl, (blk_cell BK388.out 0).trans rfl, (blk_cell BK388.out 1).trans rfl⟩ (fun hHeld => ?_)
     clear hK K
     refine norm_ (a' := ?_) ?_ ?_
     rotate_left
     ·show Act.put _ (some 8) _ = _
      simp only [Act.put, List.setIfInBounds_toArray, List.set_cons_zero, List.set_cons_succ, i64_w, i32_w]
      rfl
     refine one_ (i := 14) (N := some 25) (bA 23 1114111) rfl rfl (one_of HT_.out (by kernel_rfl)) (by decide) (fun K hK => ?_)
     refine goes_ Try.func42 (by kernel_rfl) rfl #[.int .i64 a0_1, .int .i64 (wrap64 (a0_2 + 1)), .string a1] (by rfl) rfl rfl mS ?_
     with_reducible refine (foghornref03_Seal.calls a0_1 (wrap64 (a0_2 + 1)) a1 t391 _ A5.out).mono ?_
     rintro e w14 ⟨rfl, hb⟩
     refine ⟨_, rfl, ?_⟩
     have n0_ := aA (Kd.V_below (by (with_reducible repeat (first | apply Kd.V_alloc | apply Kd.V_drewN | apply Kd.V_drew)); exact HO0_0.out) hb)
     have n1_ := aA (bB BK387.out hb)
     have n2_ := aA (bB BK388.out hb)
     have n3_ := aA (bB BK389.out hb)
     have n4_ := aA (bB BK400.out hb)
     have n5_ := aA (below_step (by repeat (first | (with_reducible first | exact HB.out | apply below_alloc | apply pw_below_drewN | apply below_drew1 | refine below_set ?_ GE387.out | refine below_set ?_ GE388.out | refine below_set ?_ GE389.out | refine below_set ?_ GE400.out) | exact HB.out)) hb)
     clear HO0_0
     clear BK387
     clear BK388
     clear BK389
     clear BK400
     clear HB
     have HO0_0 := n0_
     have BK387 := n1_
     have BK388 := n2_
     have BK389 := n3_
     have BK400 := n4_
     have HB := n5_
     clear n0_ n1_ n2_ n3_ n4_ n5_
     (try clear hb)
     (try clear hb2)
     (try clear hk)
     (try clear hi)
     refine hK.out _ _ ⟨(blk_cell BK387.out 0).trans rfl, (blk_cell BK387.out 1).trans rfl, (blk_cell BK387.out 2).trans rfl, (blk_cell BK387.out 3).trans rfl, (blk_cell BK387.out 4).trans rfl, (blk_cell BK388.out 0).trans rfl, (blk_cell BK388.out 1).trans rfl⟩ (fun hHeld => ?_)
     clear hK K
     refine norm_ (a' := ?_) ?_ ?_
     rotate_left
     ·show Act.put _ (some 25) _ = _
      simp only [Act.put, List.setIfInBounds_toArray, List.set_cons_zero, List.set_cons_succ, i64_w, i32_w]
      rfl
     refine one_ (i := 16) (N := some 27) (bA 23 1179647) rfl rfl (one_of HT_.out (by kernel_rfl)) (by decide) (fun K hK => ?_)
     refine goes_ Try.func53 (by kernel_rfl) rfl #[.agg #[.slice A0_0 l0_0.length c0_0, .int .i64 a0_1, .int .i64 a0_2, .int .i64 a0_3, .bool a0_4], .int .i64 t390, .string t391, .agg #[.int .i64 a2_0, .int .i64 a2_1]] (by rfl) rfl rfl mS ?_
     with_reducible refine (foghornref04_write.calls k (fun k_ => (((((P0_0_ k_ ∨ w.heap.size ≤ k_) ∧ k_ ≠ gb387) ∧ k_ ≠ gb388) ∧ k_ ≠ gb389) ∧ k_ ≠ gb400)) _ _ l0_0 a0_1 a0_2 a0_3 a0_4 t390 t391 a2_0 a2_1 t392 t395 t396 t397 t398 t399 _ ?side1 A6.out).mono ?_
     (case side1 => exact HO0_0.out)
     rintro e w15 ⟨v393, rfl, ho0, hb⟩
     refine ⟨_, rfl, ?_⟩
     have n0_ := aA (Kd.V_below (by (with_reducible repeat (first | apply Kd.V_alloc | apply Kd.V_drewN | apply Kd.V_drew)); exact HO0_0.out) hb)
     have n1_ := aA (Kd.V_lower (Kd.V_mono (ok' := fun k_ => (P0_0_ k_ ∨ w.heap.size ≤ k_) ∧ k_ ≠ gb387 ∧ k_ ≠ gb388 ∧ k_ ≠ gb389 ∧ k_ ≠ gb400) ho0 (fun k_ hk_ => ⟨Or.elim hk_ (fun hs_ => hs_.1.1.1.1) (fun hn_ => (.inr (Nat.le_trans (below_size (by repeat (first | (with_reducible first | exact HB.out | apply below_alloc | apply pw_below_drewN | apply below_drew1 | refine below_set ?_ GE387.out | refine below_set ?_ GE388.out | refine below_set ?_ GE389.out | refine below_set ?_ GE400.out) | exact HB.out))) hn_))), Or.elim hk_ (fun hs_ => hs_.1.1.1.2) (fun hn_ => (Kd.freshB (g := gb387) (o := .cells #[.slice A0_0 l0_0.length c0_0, .int .i64 a0_1, .int .i64 a0_2, .int .i64 a0_3, .bool a0_4] 26 (0, 0)) (mK BK387.out) k_ hn_)), Or.elim hk_ (fun hs_ => hs_.1.1.2) (fun hn_ => (Kd.freshB (g := gb388) (o := .cells #[.int .i64 a2_0, .int .i64 a2_1] 45 (0, 0)) (mK BK388.out) k_ hn_)), Or.elim hk_ (fun hs_ => hs_.1.2) (fun hn_ => (Kd.freshB (g := gb389) (o := .cells #[.slice none 0 0, .int .i64 0, .int .i64 0, .int .i64 0, .bool false] 26 (0, 0)) (mK BK389.out) k_ hn_)), Or.elim hk_ (fun hs_ => hs_.2) (fun hn_ => (Kd.freshB (g := gb400) (o := .cells #[.slice none 0 0, .int .i64 0, .int .i64 0, .int .i64 0, .bool false] 26 (0, 0)) (mK BK400.out) k_ hn_))⟩)) (below_size (by repeat (first | (with_reducible first | exact HB.out | apply below_alloc | apply pw_below_drewN | apply below_drew1 | refine below_set ?_ GE387.out | refine below_set ?_ GE388.out | refine below_set ?_ GE389.out | refine below_set ?_ GE400.out) | exact HB.out))))
     have n2_ := aA (bB BK387.out hb)
     have n3_ := aA (bB BK388.out hb)
     have n4_ := aA (bB BK389.out hb)
     have n5_ := aA (bB BK400.out hb)
     have n6_ := aA (below_step (by repeat (first | (with_reducible first | exact HB.out | apply below_alloc | apply pw_below_drewN | apply below_drew1 | refine below_set ?_ GE387.out | refine below_set ?_ GE388.out | refine below_set ?_ GE389.out | refine below_set ?_ GE400.out) | exact HB.out)) hb)
     clear HO0_0
     clear BK387
     clear BK388
     clear BK389
     clear BK400
     clear HB
     have HO0_0 := n0_
     have HO394 := n1_
     have BK387 := n2_
     have BK388 := n3_
     have BK389 := n4_
     have BK400 := n5_
     have HB := n6_
     clear n0_ n1_ n2_ n3_ n4_ n5_ n6_
     (try clear hb)
     (try clear hb2)
     (try clear hk)
     (try clear hi)
     (try clear ho0)
     refine hK.out _ _ ⟨(blk_cell BK387.out 0).trans rfl, (blk_cell BK387.out 1).trans rfl, (blk_cell BK387.out 2).trans rfl, (blk_cell BK387.out 3).trans rfl, (blk_cell BK387.out 4).trans rfl, (blk_cell BK388.out 0).trans rfl, (blk_cell BK388.out 1).trans rfl⟩ (fun hHeld => ?_)
     clear hK K
     refine norm_ (a' := ?_) ?_ ?_
     rotate_left
     ·show Act.put _ (some 27) _ = _
      simp only [Act.put, List.setIfInBounds_toArray, List.set_cons_zero, List.set_cons_succ, i64_w, i32_w]
      rfl
     refine pure_ (i := 17) (N := some 10) (v := ?_) (a' := ?_) (bA 23 1310719) rfl rfl (any_of HT_.out (by kernel_rfl)) (fun _ _ _ h => h) (Or.inl ⟨by rfl, ?_⟩) ?_ ?_
     rotate_left
     ·intro w'
      go_simp
      with_reducible rfl
     rotate_left
     ·exact mP
     refine pure_ (i := 18) (N := some 28) (v := ?_) (a' := ?_) (bA 23 1572863) rfl rfl (any_of HT_.out (by kernel_rfl)) (fun _ _ _ h => h) (Or.inl ⟨by rfl, ?_⟩) ?_ ?_
     rotate_left
     ·intro w'
      go_simp
      with_reducible rfl
     rotate_left
     ·exact mP
     refine pure_ (i := 19) (N := some 29) (v := ?_) (a' := ?_) (bA 23 2097151) rfl rfl (any_of HT_.out (by kernel_rfl)) (fun _ _ _ h => h) (Or.inl ⟨by rfl, ?_⟩) ?_ ?_
     rotate_left
     ·intro w'
      go_simp
      with_reducible rfl
     rotate_left
     ·exact mP
     exact norm_ (by simp only [putAll, Act.put, List.setIfInBounds_toArray, List.set_cons_zero, List.set_cons_succ]) (hCont (v393, gb400) _ ⟨hHeld, (by (with_reducible repeat (first | apply Kd.V_alloc | apply Kd.V_drewN | apply Kd.V_drew)); exact Kd.V_mono HO0_0.out (fun _ hk => ⟨hk.1.1.1.1, ⟨hk.1.1.1.2, ⟨hk.1.1.2, ⟨hk.1.2, hk.2⟩⟩⟩⟩)), (by (with_reducible repeat (first | apply Kd.V_alloc | apply Kd.V_drewN | apply Kd.V_drew)); exact HO394.out), (mK BK387.out), (mK BK388.out), (mK BK389.out), (mK BK400.out), GW400.out, GE400.out, NB387_400.out, NB400_387.out, NB388_400.out, NB400_388.out, NB389_400.out, NB400_389.out, (by repeat (first | (with_reducible first | exact HB.out | apply below_alloc | apply pw_below_drewN | apply below_drew1 | refine below_set ?_ GE387.out | refine below_set ?_ GE388.out | refine below_set ?_ GE389.out | refine below_set ?_ GE400.out) | exact HB.out))⟩)
   ·skip
    refine box_step ?hg (N := 8) ?hd (cs := #[.slice none 0 0, .int .i64 0, .int .i64 0, .int .i64 0, .bool false]) (t := 26) ?hr ?_; (case hd => rfl); (case hg => rfl); (case hr => first | (go_simp; done) | (go_simp; rfl))
    intro gb400 hg w12 hbox hb
    have n0_ := aA (Kd.V_below (Kd.V_elderB (by (with_reducible repeat (first | apply Kd.V_alloc | apply Kd.V_drewN | apply Kd.V_drew)); exact HO0_0.out) gb400 (Nat.le_of_eq hg.symm)) hb)
    have n1_ := aA (bB BK387.out hb)
    have n2_ := aA (bB BK388.out hb)
    have n3_ := aA (bB BK389.out hb)
    have n4_ := aA (below_step (mD3 GE387.out GE388.out GE389.out) hb)
    have n5_ := aA (hbox)
    have n6_ := aA ((bZ hg (mD3 GE387.out GE388.out GE389.out)))
    have n7_ := aA ((bZ hg (mD3 GE387.out GE388.out GE389.out)))
    have n8_ := aA ((bL hg BK387.out))
    have n9_ := aA ((bG hg BK387.out))
    have n10_ := aA ((bL hg BK388.out))
    have n11_ := aA ((bG hg BK388.out))
    have n12_ := aA ((bL hg BK389.out))
    have n13_ := aA ((bG hg BK389.out))
    clear HO0_0
    clear BK387
    clear BK388
    clear BK389
    clear HB
    have HO0_0 := n0_
    have BK387 := n1_
    have BK388 := n2_
    have BK389 := n3_
    have HB := n4_
    have BK400 := n5_
    have GW400 := n6_
    have GE400 := n7_
    have NB387_400 := n8_
    have NB400_387 := n9_
    have NB388_400 := n10_
    have NB400_388 := n11_
    have NB389_400 := n12_
    have NB400_389 := n13_
    clear n0_ n1_ n2_ n3_ n4_ n5_ n6_ n7_ n8_ n9_ n10_ n11_ n12_ n13_
    clear hb hbox hg
    refine hK.out _ _ ⟨(blk_cell BK387.out 0).trans rfl, (blk_cell BK387.out 1).trans rfl, (blk_cell BK387.out 2).trans rfl, (blk_cell BK387.out 3).trans rfl, (blk_cell BK387.out 4).trans rfl, (blk_cell BK388.out 0).trans rfl, (blk_cell BK388.out 1).trans rfl⟩ (fun hHeld => ?_)
    clear hK K
    refine norm_ (a' := ?_) ?_ ?_
    rotate_left
    ·show Act.put _ (some 8) _ = _
     simp only [Act.put, List.setIfInBounds_toArray, List.set_cons_zero, List.set_cons_succ, i64_w, i32_w]
     rfl
    refine one_ (i := 7) (N := some 18) (bA 23 1097727) rfl rfl (one_of HT_.out (by kernel_rfl)) (by decide) (fun K hK => ?_)
    refine goes_ Try.func46 (by kernel_rfl) rfl #[.agg #[.slice A0_0 l0_0.length c0_0], .int .i64 a0_1, .int .i64 a0_2] (by rfl) rfl rfl mS ?_
    with_reducible refine (foghornref04_place.calls _ _ l0_0 a0_1 a0_2 t390 _ ?side1 ?side2 A4.out).mono ?_
    (case side1 => exact mC ((Kd.V_reads' HO0_0.out).2.2))
    (case side2 => exact (Kd.V_reads' HO0_0.out).2.1)
    rintro e w13 ⟨rfl, hb⟩
    refine ⟨_, rfl, ?_⟩
    have n0_ := aA (Kd.V_below (by (with_reducible repeat (first | apply Kd.V_alloc | apply Kd.V_drewN | apply Kd.V_drew)); exact HO0_0.out) hb)
    have n1_ := aA (bB BK387.out hb)
    have n2_ := aA (bB BK388.out hb)
    have n3_ := aA (bB BK389.out hb)
    have n4_ := aA (bB BK400.out hb)
    have n5_ := aA (below_step (by repeat (first | (with_reducible first | exact HB.out | apply below_alloc | apply pw_below_drewN | apply below_drew1 | refine below_set ?_ GE387.out | refine below_set ?_ GE388.out | refine below_set ?_ GE389.out | refine below_set ?_ GE400.out) | exact HB.out)) hb)
    clear HO0_0
    clear BK387
    clear BK388
    clear BK389
    clear BK400
    clear HB
    have HO0_0 := n0_
    have BK387 := n1_
    have BK388 := n2_
    have BK389 := n3_
    have BK400 := n4_
    have HB := n5_
    clear n0_ n1_ n2_ n3_ n4_ n5_
    (try clear hb)
    (try clear hb2)
    (try clear hk)
    (try clear hi)
    refine hK.out _ _ ⟨(blk_cell BK387.out 0).trans rfl, (blk_cell BK387.out 1).trans rfl, (blk_cell BK387.out 2).trans rfl, (blk_cell BK387.out 3).trans rfl, (blk_cell BK387.out 4).trans rfl, (blk_cell BK388.out 0).trans rfl, (blk_cell BK388.out 1).trans rfl⟩ (fun hHeld => ?_)
    clear hK K
    refine norm_ (a' := ?_) ?_ ?_
    rotate_left
    ·show Act.put _ (some 18) _ = _
     simp only [Act.put, List.setIfInBounds_toArray, List.set_cons_zero, List.set_cons_succ, i64_w, i32_w]
     rfl
    refine one_ (i := 14) (N := some 25) (bA 23 1114111) rfl rfl (one_of HT_.out (by kernel_rfl)) (by decide) (fun K hK => ?_)
    refine goes_ Try.func42 (by kernel_rfl) rfl #[.int .i64 a0_1, .int .i64 (wrap64 (a0_2 + 1)), .string a1] (by rfl) rfl rfl mS ?_
    with_reducible refine (foghornref03_Seal.calls a0_1 (wrap64 (a0_2 + 1)) a1 t391 _ A5.out).mono ?_
    rintro e w14 ⟨rfl, hb⟩
    refine ⟨_, rfl, ?_⟩
    have n0_ := aA (Kd.V_below (by (with_reducible repeat (first | apply Kd.V_alloc | apply Kd.V_drewN | apply Kd.V_drew)); exact HO0_0.out) hb)
    have n1_ := aA (bB BK387.out hb)
    have n2_ := aA (bB BK388.out hb)
    have n3_ := aA (bB BK389.out hb)
    have n4_ := aA (bB BK400.out hb)
    have n5_ := aA (below_step (by repeat (first | (with_reducible first | exact HB.out | apply below_alloc | apply pw_below_drewN | apply below_drew1 | refine below_set ?_ GE387.out | refine below_set ?_ GE388.out | refine below_set ?_ GE389.out | refine below_set ?_ GE400.out) | exact HB.out)) hb)
    clear HO0_0
    clear BK387
    clear BK388
    clear BK389
    clear BK400
    clear HB
    have HO0_0 := n0_
    have BK387 := n1_
    have BK388 := n2_
    have BK389 := n3_
    have BK400 := n4_
    have HB := n5_
    clear n0_ n1_ n2_ n3_ n4_ n5_
    (try clear hb)
    (try clear hb2)
    (try clear hk)
    (try clear hi)
    refine hK.out _ _ ⟨(blk_cell BK387.out 0).trans rfl, (blk_cell BK387.out 1).trans rfl, (blk_cell BK387.out 2).trans rfl, (blk_cell BK387.out 3).trans rfl, (blk_cell BK387.out 4).trans rfl, (blk_cell BK388.out 0).trans rfl, (blk_cell BK388.out 1).trans rfl⟩ (fun hHeld => ?_)
    clear hK K
    refine norm_ (a' := ?_) ?_ ?_
    rotate_left
    ·show Act.put _ (some 25) _ = _
     simp only [Act.put, List.setIfInBounds_toArray, List.set_cons_zero, List.set_cons_succ, i64_w, i32_w]
     rfl
    refine one_ (i := 16) (N := some 27) (bA 23 1179647) rfl rfl (one_of HT_.out (by kernel_rfl)) (by decide) (fun K hK => ?_)
    refine goes_ Try.func53 (by kernel_rfl) rfl #[.agg #[.slice A0_0 l0_0.length c0_0, .int .i64 a0_1, .int .i64 a0_2, .int .i64 a0_3, .bool a0_4], .int .i64 t390, .string t391, .agg #[.int .i64 a2_0, .int .i64 a2_1]] (by rfl) rfl rfl mS ?_
    with_reducible refine (foghornref04_write.calls k (fun k_ => (((((P0_0_ k_ ∨ w.heap.size ≤ k_) ∧ k_ ≠ gb387) ∧ k_ ≠ gb388) ∧ k_ ≠ gb389) ∧ k_ ≠ gb400)) _ _ l0_0 a0_1 a0_2 a0_3 a0_4 t390 t391 a2_0 a2_1 t392 t395 t396 t397 t398 t399 _ ?side1 A6.out).mono ?_
    (case side1 => exact HO0_0.out)
    rintro e w15 ⟨v393, rfl, ho0, hb⟩
    refine ⟨_, rfl, ?_⟩
    have n0_ := aA (Kd.V_below (by (with_reducible repeat (first | apply Kd.V_alloc | apply Kd.V_drewN | apply Kd.V_drew)); exact HO0_0.out) hb)
    have n1_ := aA (Kd.V_lower (Kd.V_mono (ok' := fun k_ => (P0_0_ k_ ∨ w.heap.size ≤ k_) ∧ k_ ≠ gb387 ∧ k_ ≠ gb388 ∧ k_ ≠ gb389 ∧ k_ ≠ gb400) ho0 (fun k_ hk_ => ⟨Or.elim hk_ (fun hs_ => hs_.1.1.1.1) (fun hn_ => (.inr (Nat.le_trans (below_size (by repeat (first | (with_reducible first | exact HB.out | apply below_alloc | apply pw_below_drewN | apply below_drew1 | refine below_set ?_ GE387.out | refine below_set ?_ GE388.out | refine below_set ?_ GE389.out | refine below_set ?_ GE400.out) | exact HB.out))) hn_))), Or.elim hk_ (fun hs_ => hs_.1.1.1.2) (fun hn_ => (Kd.freshB (g := gb387) (o := .cells #[.slice A0_0 l0_0.length c0_0, .int .i64 a0_1, .int .i64 a0_2, .int .i64 a0_3, .bool a0_4] 26 (0, 0)) (mK BK387.out) k_ hn_)), Or.elim hk_ (fun hs_ => hs_.1.1.2) (fun hn_ => (Kd.freshB (g := gb388) (o := .cells #[.int .i64 a2_0, .int .i64 a2_1] 45 (0, 0)) (mK BK388.out) k_ hn_)), Or.elim hk_ (fun hs_ => hs_.1.2) (fun hn_ => (Kd.freshB (g := gb389) (o := .cells #[.slice none 0 0, .int .i64 0, .int .i64 0, .int .i64 0, .bool false] 26 (0, 0)) (mK BK389.out) k_ hn_)), Or.elim hk_ (fun hs_ => hs_.2) (fun hn_ => (Kd.freshB (g := gb400) (o := .cells #[.slice none 0 0, .int .i64 0, .int .i64 0, .int .i64 0, .bool false] 26 (0, 0)) (mK BK400.out) k_ hn_))⟩)) (below_size (by repeat (first | (with_reducible first | exact HB.out | apply below_alloc | apply pw_below_drewN | apply below_drew1 | refine below_set ?_ GE387.out | refine below_set ?_ GE388.out | refine below_set ?_ GE389.out | refine below_set ?_ GE400.out) | exact HB.out))))
    have n2_ := aA (bB BK387.out hb)
    have n3_ := aA (bB BK388.out hb)
    have n4_ := aA (bB BK389.out hb)
    have n5_ := aA (bB BK400.out hb)
    have n6_ := aA (below_step (by repeat (first | (with_reducible first | exact HB.out | apply below_alloc | apply pw_below_drewN | apply below_drew1 | refine below_set ?_ GE387.out | refine below_set ?_ GE388.out | refine below_set ?_ GE389.out | refine below_set ?_ GE400.out) | exact HB.out)) hb)
    clear HO0_0
    clear BK387
    clear BK388
    clear BK389
    clear BK400
    clear HB
    have HO0_0 := n0_
    have HO394 := n1_
    have BK387 := n2_
    have BK388 := n3_
    have BK389 := n4_
    have BK400 := n5_
    have HB := n6_
    clear n0_ n1_ n2_ n3_ n4_ n5_ n6_
    (try clear hb)
    (try clear hb2)
    (try clear hk)
    (try clear hi)
    (try clear ho0)
    refine hK.out _ _ ⟨(blk_cell BK387.out 0).trans rfl, (blk_cell BK387.out 1).trans rfl, (blk_cell BK387.out 2).trans rfl, (blk_cell BK387.out 3).trans rfl, (blk_cell BK387.out 4).trans rfl, (blk_cell BK388.out 0).trans rfl, (blk_cell BK388.out 1).trans rfl⟩ (fun hHeld => ?_)
    clear hK K
    refine norm_ (a' := ?_) ?_ ?_
    rotate_left
    ·show Act.put _ (some 27) _ = _
     simp only [Act.put, List.setIfInBounds_toArray, List.set_cons_zero, List.set_cons_succ, i64_w, i32_w]
     rfl
    refine pure_ (i := 17) (N := some 10) (v := ?_) (a' := ?_) (bA 23 1310719) rfl rfl (any_of HT_.out (by kernel_rfl)) (fun _ _ _ h => h) (Or.inl ⟨by rfl, ?_⟩) ?_ ?_
    rotate_left
    ·intro w'
     go_simp
     with_reducible rfl
    rotate_left
    ·exact mP
    refine pure_ (i := 18) (N := some 28) (v := ?_) (a' := ?_) (bA 23 1572863) rfl rfl (any_of HT_.out (by kernel_rfl)) (fun _ _ _ h => h) (Or.inl ⟨by rfl, ?_⟩) ?_ ?_
    rotate_left
    ·intro w'
     go_simp
     with_reducible rfl
    rotate_left
    ·exact mP
    refine pure_ (i := 19) (N := some 29) (v := ?_) (a' := ?_) (bA 23 2097151) rfl rfl (any_of HT_.out (by kernel_rfl)) (fun _ _ _ h => h) (Or.inl ⟨by rfl, ?_⟩) ?_ ?_
    rotate_left
    ·intro w'
     go_simp
     with_reducible rfl
    rotate_left
    ·exact mP
    exact norm_ (by simp only [putAll, Act.put, List.setIfInBounds_toArray, List.set_cons_zero, List.set_cons_succ]) (hCont (v393, gb400) _ ⟨hHeld, (by (with_reducible repeat (first | apply Kd.V_alloc | apply Kd.V_drewN | apply Kd.V_drew)); exact Kd.V_mono HO0_0.out (fun _ hk => ⟨hk.1.1.1.1, ⟨hk.1.1.1.2, ⟨hk.1.1.2, ⟨hk.1.2, hk.2⟩⟩⟩⟩)), (by (with_reducible repeat (first | apply Kd.V_alloc | apply Kd.V_drewN | apply Kd.V_drew)); exact HO394.out), (mK BK387.out), (mK BK388.out), (mK BK389.out), (mK BK400.out), GW400.out, GE400.out, NB387_400.out, NB400_387.out, NB388_400.out, NB400_388.out, NB389_400.out, NB400_389.out, (by repeat (first | (with_reducible first | exact HB.out | apply below_alloc | apply pw_below_drewN | apply below_drew1 | refine below_set ?_ GE387.out | refine below_set ?_ GE388.out | refine below_set ?_ GE389.out | refine below_set ?_ GE400.out) | exact HB.out))⟩)
  rintro ⟨v393, gb400⟩ w16 ⟨hS_, h0_, h1_, h2_, h3_, h4_, h5_, h6_, h7_, h8_, h9_, h10_, h11_, h12_, h13_, h14_⟩
  have n0_ : Aside0 (Kd.V Kd.string 9 w16 w.heap.size (fun k_ => (P0_0_ k_ ∨ w.heap.size ≤ k_) ∧ k_ ≠ gb387 ∧ k_ ≠ gb388 ∧ k_ ≠ gb389 ∧ k_ ≠ gb400) (.slice A0_0 l0_0.length c0_0) l0_0) := ⟨h0_⟩
  have n1_ : Aside0 (Kd.V Kd.string 9 w16 w.heap.size (fun k_ => (P0_0_ k_ ∨ w.heap.size ≤ k_) ∧ k_ ≠ gb387 ∧ k_ ≠ gb388 ∧ k_ ≠ gb389 ∧ k_ ≠ gb400) v393 t392) := ⟨h1_⟩
  have n2_ : Aside0 (w16.heap[gb387]? = some (.cells #[.slice A0_0 l0_0.length c0_0, .int .i64 a0_1, .int .i64 a0_2, .int .i64 a0_3, .bool a0_4] 26 (0, 0))) := ⟨h2_⟩
  have n3_ : Aside0 (w16.heap[gb388]? = some (.cells #[.int .i64 a2_0, .int .i64 a2_1] 45 (0, 0))) := ⟨h3_⟩
  have n4_ : Aside0 (w16.heap[gb389]? = some (.cells #[.slice none 0 0, .int .i64 0, .int .i64 0, .int .i64 0, .bool false] 26 (0, 0))) := ⟨h4_⟩
  have n5_ : Aside0 (w16.heap[gb400]? = some (.cells #[.slice none 0 0, .int .i64 0, .int .i64 0, .int .i64 0, .bool false] 26 (0, 0))) := ⟨h5_⟩
  have n6_ : Aside0 (w.heap.size ≤ gb400) := ⟨h6_⟩
  have n7_ : Aside0 (w.heap.size ≤ gb400) := ⟨h7_⟩
  have n8_ : Aside0 (gb387 ≠ gb400) := ⟨h8_⟩
  have n9_ : Aside0 (gb400 ≠ gb387) := ⟨h9_⟩
  have n10_ : Aside0 (gb388 ≠ gb400) := ⟨h10_⟩
  have n11_ : Aside0 (gb400 ≠ gb388) := ⟨h11_⟩
  have n12_ : Aside0 (gb389 ≠ gb400) := ⟨h12_⟩
  have n13_ : Aside0 (gb400 ≠ gb389) := ⟨h13_⟩
  have n14_ : Aside0 (Below w.heap.size w w16) := ⟨h14_⟩
  clear HO0_0
  clear BK387
  clear BK388
  clear BK389
  clear HB
  clear h0_ h1_ h2_ h3_ h4_ h5_ h6_ h7_ h8_ h9_ h10_ h11_ h12_ h13_ h14_
  have HO0_0 := n0_
  have HO394 := n1_
  have BK387 := n2_
  have BK388 := n3_
  have BK389 := n4_
  have BK400 := n5_
  have GW400 := n6_
  have GE400 := n7_
  have NB387_400 := n8_
  have NB400_387 := n9_
  have NB388_400 := n10_
  have NB400_388 := n11_
  have NB389_400 := n12_
  have NB400_389 := n13_
  have HB := n14_
  clear n0_ n1_ n2_ n3_ n4_ n5_ n6_ n7_ n8_ n9_ n10_ n11_ n12_ n13_ n14_
  have hHeld : w16.cell? ⟨gb387, 0, none⟩ = some (.slice A0_0 l0_0.length c0_0) ∧ w16.cell? ⟨gb387, 1, none⟩ = some (.int .i64 a0_1) ∧ w16.cell? ⟨gb387, 2, none⟩ = some (.int .i64 a0_2) ∧ w16.cell? ⟨gb387, 3, none⟩ = some (.int .i64 a0_3) ∧ w16.cell? ⟨gb387, 4, none⟩ = some (.bool a0_4) ∧ w16.cell? ⟨gb388, 0, none⟩ = some (.int .i64 a2_0) ∧ w16.cell? ⟨gb388, 1, none⟩ = some (.int .i64 a2_1) := hS_
  obtain ⟨Ao17, co17, eo17⟩ := Kd.V_slice HO394.out
  (first | subst eo17 | (injection eo17 with f1_ f2_ f3_; have f4_ := f1_.symm; have f5_ := f3_.symm; clear f1_ f2_ f3_; subst f4_; subst f5_))
  refine norm_ (a' := ?_) ?_ ?_
  rotate_left
  ·simp only [putAll, Act.put, List.setIfInBounds_toArray, List.set_cons_zero, List.set_cons_succ]
   rfl
  refine one_ (i := 21) (N := none) (bA 23 4194303) rfl rfl (one_of HT_.out (by kernel_rfl)) (by decide) (fun K hK => ?_)
  have hs18 : w16.cell? ⟨gb400, 0, none⟩ = some (.slice none 0 0) := (blk_cell BK400.out 0).trans rfl
  have hfs18 := blk_frozen BK400.out 0
  have hns18_0 := NB387_400.out
  have hns18_1 := NB388_400.out
  have hns18_2 := NB389_400.out
  have hms18_0 := NB400_387.out
  have hms18_1 := NB400_388.out
  have hms18_2 := NB400_389.out
  have hs19 : w16.cell? ⟨gb400, 1, none⟩ = some (.int .i64 0) := (blk_cell BK400.out 1).trans rfl
  have hfs19 := blk_frozen BK400.out 1
  have hns19_0 := NB387_400.out
  have hns19_1 := NB388_400.out
  have hns19_2 := NB389_400.out
  have hms19_0 := NB400_387.out
  have hms19_1 := NB400_388.out
  have hms19_2 := NB400_389.out
  have hs20 : w16.cell? ⟨gb400, 2, none⟩ = some (.int .i64 0) := (blk_cell BK400.out 2).trans rfl
  have hfs20 := blk_frozen BK400.out 2
  have hns20_0 := NB387_400.out
  have hns20_1 := NB388_400.out
  have hns20_2 := NB389_400.out
  have hms20_0 := NB400_387.out
  have hms20_1 := NB400_388.out
  have hms20_2 := NB400_389.out
  have hs21 : w16.cell? ⟨gb400, 3, none⟩ = some (.int .i64 0) := (blk_cell BK400.out 3).trans rfl
  have hfs21 := blk_frozen BK400.out 3
  have hns21_0 := NB387_400.out
  have hns21_1 := NB388_400.out
  have hns21_2 := NB389_400.out
  have hms21_0 := NB400_387.out
  have hms21_1 := NB400_388.out
  have hms21_2 := NB400_389.out
  have hs22 : w16.cell? ⟨gb400, 4, none⟩ = some (.bool false) := (blk_cell BK400.out 4).trans rfl
  have hfs22 := blk_frozen BK400.out 4
  have hns22_0 := NB387_400.out
  have hns22_1 := NB388_400.out
  have hns22_2 := NB389_400.out
  have hms22_0 := NB400_387.out
  have hms22_1 := NB400_388.out
  have hms22_2 := NB400_389.out
  refine skip_ (w1 := ?_) (by rfl) rfl ?_ ?_
  rotate_left
  ·go_simp
   rfl
  refine hK.out _ _ ⟨((cell_far (p := ⟨gb400, _, none⟩) NB387_400.out _).trans (((cell_far (p := ⟨gb400, _, none⟩) NB387_400.out _).trans (((cell_far (p := ⟨gb400, _, none⟩) NB387_400.out _).trans (((cell_far (p := ⟨gb400, _, none⟩) NB387_400.out _).trans (((cell_far (p := ⟨gb400, _, none⟩) NB387_400.out _).trans (hHeld.1)))))))))), ((cell_far (p := ⟨gb400, _, none⟩) NB387_400.out _).trans (((cell_far (p := ⟨gb400, _, none⟩) NB387_400.out _).trans (((cell_far (p := ⟨gb400, _, none⟩) NB387_400.out _).trans (((cell_far (p := ⟨gb400, _, none⟩) NB387_400.out _).trans (((cell_far (p := ⟨gb400, _, none⟩) NB387_400.out _).trans (hHeld.2.1)))))))))), ((cell_far (p := ⟨gb400, _, none⟩) NB387_400.out _).trans (((cell_far (p := ⟨gb400, _, none⟩) NB387_400.out _).trans (((cell_far (p := ⟨gb400, _, none⟩) NB387_400.out _).trans (((cell_far (p := ⟨gb400, _, none⟩) NB387_400.out _).trans (((cell_far (p := ⟨gb400, _, none⟩) NB387_400.out _).trans (hHeld.2.2.1)))))))))), ((cell_far (p := ⟨gb400, _, none⟩) NB387_400.out _).trans (((cell_far (p := ⟨gb400, _, none⟩) NB387_400.out _).trans (((cell_far (p := ⟨gb400, _, none⟩) NB387_400.out _).trans (((cell_far (p := ⟨gb400, _, none⟩) NB387_400.out _).trans (((cell_far (p := ⟨gb400, _, none⟩) NB387_400.out _).trans (hHeld.2.2.2.1)))))))))), ((cell_far (p := ⟨gb400, _, none⟩) NB387_400.out _).trans (((cell_far (p := ⟨gb400, _, none⟩) NB387_400.out _).trans (((cell_far (p := ⟨gb400, _, none⟩) NB387_400.out _).trans (((cell_far (p := ⟨gb400, _, none⟩) NB387_400.out _).trans (((cell_far (p := ⟨gb400, _, none⟩) NB387_400.out _).trans (hHeld.2.2.2.2.1)))))))))), ((cell_far (p := ⟨gb400, _, none⟩) NB388_400.out _).trans (((cell_far (p := ⟨gb400, _, none⟩) NB388_400.out _).trans (((cell_far (p := ⟨gb400, _, none⟩) NB388_400.out _).trans (((cell_far (p := ⟨gb400, _, none⟩) NB388_400.out _).trans (((cell_far (p := ⟨gb400, _, none⟩) NB388_400.out _).trans (hHeld.2.2.2.2.2.1)))))))))), ((cell_far (p := ⟨gb400, _, none⟩) NB388_400.out _).trans (((cell_far (p := ⟨gb400, _, none⟩) NB388_400.out _).trans (((cell_far (p := ⟨gb400, _, none⟩) NB388_400.out _).trans (((cell_far (p := ⟨gb400, _, none⟩) NB388_400.out _).trans (((cell_far (p := ⟨gb400, _, none⟩) NB388_400.out _).trans (hHeld.2.2.2.2.2.2))))))))))⟩ (fun hHeld => ?_)
  clear hK K
  refine pure_ (i := 22) (N := some 9) (v := ?_) (a' := ?_) (bA 23 8388607) rfl rfl (any_of HT_.out (by kernel_rfl)) (fun _ _ _ h => h) (Or.inl ⟨by rfl, ?_⟩) ?_ ?_
  rotate_left
  ·intro w'
   go_simp
   with_reducible rfl
  rotate_left
  ·exact mP
  refine done_ (done_of HT_.out (by kernel_rfl)) ?_
  generalize hW5 : (((((w16.setCell ⟨gb400, 0, none⟩ (.slice Ao17 t392.length co17)).setCell ⟨gb400, 1, none⟩ (.int .i64 t395)).setCell ⟨gb400, 2, none⟩ (.int .i64 t396)).setCell ⟨gb400, 3, none⟩ (.int .i64 t397)).setCell ⟨gb400, 4, none⟩ (.bool t398)) = W5
  have T8 : Aside0 (W5.heap[gb400]? = some (.cells #[.slice Ao17 t392.length co17, .int .i64 t395, .int .i64 t396, .int .i64 t397, .bool t398] 26 (0, 0))) := aA (by rw [← hW5]; refine blk_put (cs := #[.slice Ao17 t392.length co17, .int .i64 t395, .int .i64 t396, .int .i64 t397, .bool false]) ?_ 4 _ rfl; refine blk_put (cs := #[.slice Ao17 t392.length co17, .int .i64 t395, .int .i64 t396, .int .i64 0, .bool false]) ?_ 3 _ rfl; refine blk_put (cs := #[.slice Ao17 t392.length co17, .int .i64 t395, .int .i64 0, .int .i64 0, .bool false]) ?_ 2 _ rfl; refine blk_put (cs := #[.slice Ao17 t392.length co17, .int .i64 0, .int .i64 0, .int .i64 0, .bool false]) ?_ 1 _ rfl; refine blk_put (cs := #[.slice none 0 0, .int .i64 0, .int .i64 0, .int .i64 0, .bool false]) ?_ 0 _ rfl; exact BK400.out)
  have T3 : Aside0 (W5.heap[gb387]? = some (.cells #[.slice A0_0 l0_0.length c0_0, .int .i64 a0_1, .int .i64 a0_2, .int .i64 a0_3, .bool a0_4] 26 (0, 0))) := aA (by rw [← hW5]; refine blk_far ?_ NB387_400.out _; refine blk_far ?_ NB387_400.out _; refine blk_far ?_ NB387_400.out _; refine blk_far ?_ NB387_400.out _; refine blk_far ?_ NB387_400.out _; exact BK387.out)
  have T6 : Aside0 (W5.heap[gb389]? = some (.cells #[.slice none 0 0, .int .i64 0, .int .i64 0, .int .i64 0, .bool false] 26 (0, 0))) := aA (by rw [← hW5]; refine blk_far ?_ NB389_400.out _; refine blk_far ?_ NB389_400.out _; refine blk_far ?_ NB389_400.out _; refine blk_far ?_ NB389_400.out _; refine blk_far ?_ NB389_400.out _; exact BK389.out)
  have TB : Aside0 (Below w.heap.size w W5) := aA (by rw [← hW5]; refine below_set ?_ GE400.out; refine below_set ?_ GE400.out; refine below_set ?_ GE400.out; refine below_set ?_ GE400.out; refine below_set ?_ GE400.out; exact HB.out)
  have TV := aA (Kd.V_far (p := ⟨gb400, 4, none⟩) (Kd.V_far (p := ⟨gb400, 3, none⟩) (Kd.V_far (p := ⟨gb400, 2, none⟩) (Kd.V_far (p := ⟨gb400, 1, none⟩) (Kd.V_far (p := ⟨gb400, 0, none⟩) (Kd.V_mono (Kd.V_mono HO394.out (fun k_ hk => (⟨hk, hk.2.2.2.2⟩ : _ ∧ k_ ≠ gb400))) (fun k_ hk => (⟨hk, hk.1.2.2.2.1⟩ : _ ∧ k_ ≠ gb389))) (fun _ hk => hk.1.2) (.slice Ao17 t392.length co17)) (fun _ hk => hk.1.2) (.int .i64 t395)) (fun _ hk => hk.1.2) (.int .i64 t396)) (fun _ hk => hk.1.2) (.int .i64 t397)) (fun _ hk => hk.1.2) (.bool t398))
  rw [hW5] at TV
  clear hW5
  have y400_0 : W5.cell? ⟨gb400, 0, none⟩ = some (.slice Ao17 t392.length co17) := (blk_cell T8.out 0).trans rfl
  have f400_0 := blk_frozen T8.out 0
  have y400_1 : W5.cell? ⟨gb400, 1, none⟩ = some (.int .i64 t395) := (blk_cell T8.out 1).trans rfl
  have f400_1 := blk_frozen T8.out 1
  have y400_2 : W5.cell? ⟨gb400, 2, none⟩ = some (.int .i64 t396) := (blk_cell T8.out 2).trans rfl
  have f400_2 := blk_frozen T8.out 2
  have y400_3 : W5.cell? ⟨gb400, 3, none⟩ = some (.int .i64 t397) := (blk_cell T8.out 3).trans rfl
  have f400_3 := blk_frozen T8.out 3
  have y400_4 : W5.cell? ⟨gb400, 4, none⟩ = some (.bool t398) := (blk_cell T8.out 4).trans rfl
  have f400_4 := blk_frozen T8.out 4
  have y389_0 : W5.cell? ⟨gb389, 0, none⟩ = some (.slice none 0 0) := (blk_cell T6.out 0).trans rfl
  have f389_0 := blk_frozen T6.out 0
  have y389_1 : W5.cell? ⟨gb389, 1, none⟩ = some (.int .i64 0) := (blk_cell T6.out 1).trans rfl
  have f389_1 := blk_frozen T6.out 1
  have y389_2 : W5.cell? ⟨gb389, 2, none⟩ = some (.int .i64 0) := (blk_cell T6.out 2).trans rfl
  have f389_2 := blk_frozen T6.out 2
  have y389_3 : W5.cell? ⟨gb389, 3, none⟩ = some (.int .i64 0) := (blk_cell T6.out 3).trans rfl
  have f389_3 := blk_frozen T6.out 3
  have y389_4 : W5.cell? ⟨gb389, 4, none⟩ = some (.bool false) := (blk_cell T6.out 4).trans rfl
  have f389_4 := blk_frozen T6.out 4
  have y387 : W5.cell? ⟨gb387, 2, none⟩ = some (.int .i64 a0_2) := (blk_cell T3.out 2).trans rfl
  have n1 := NB389_400.out
  have n2 := NB400_389.out
  have n3 := NB387_400.out
  have n4 := NB400_387.out
  have n5 := NB387_389.out
  have n6 := NB389_387.out
  go_wp2
  refine bodyPost_ret (results_ct rfl _ _ gb389 26 #[.slice Ao17 t392.length co17, .int .i64 t395, .int .i64 (wrap64 (a0_2 + 1)), .int .i64 t397, .bool t398] (0, 0) _ rfl (by refine blk_put (cs := #[.slice Ao17 t392.length co17, .int .i64 t395, .int .i64 (wrap64 (a0_2 + 1)), .int .i64 t397, .bool false]) ?_ 4 _ rfl; refine blk_put (cs := #[.slice Ao17 t392.length co17, .int .i64 t395, .int .i64 (wrap64 (a0_2 + 1)), .int .i64 0, .bool false]) ?_ 3 _ rfl; refine blk_put (cs := #[.slice Ao17 t392.length co17, .int .i64 t395, .int .i64 0, .int .i64 0, .bool false]) ?_ 2 _ rfl; refine blk_put (cs := #[.slice Ao17 t392.length co17, .int .i64 0, .int .i64 0, .int .i64 0, .bool false]) ?_ 1 _ rfl; refine blk_put (cs := #[.slice none 0 0, .int .i64 0, .int .i64 0, .int .i64 0, .bool false]) ?_ 0 _ rfl; refine blk_far ?_ NB389_400.out _; exact T6.out) Try.underlying26 rfl (by kernel_rfl)) rfl ?_
  exact ⟨_, rfl, Kd.V_mono (Kd.V_far (p := ⟨gb389, 4, none⟩) (Kd.V_far (p := ⟨gb389, 3, none⟩) (Kd.V_far (p := ⟨gb389, 2, none⟩) (Kd.V_far (p := ⟨gb389, 1, none⟩) (Kd.V_far (p := ⟨gb389, 0, none⟩) (Kd.V_far (p := ⟨gb400, 2, none⟩) TV.out (fun _ hk => hk.1.2) (.int .i64 (wrap64 (a0_2 + 1)))) (fun _ hk => hk.2) (.slice Ao17 t392.length co17)) (fun _ hk => hk.2) (.int .i64 t395)) (fun _ hk => hk.2) (.int .i64 (wrap64 (a0_2 + 1)))) (fun _ hk => hk.2) (.int .i64 t397)) (fun _ hk => hk.2) (.bool t398)) (fun _ hk => hk.1.1.1), by refine below_set ?_ GE389.out; refine below_set ?_ GE389.out; refine below_set ?_ GE389.out; refine below_set ?_ GE389.out; refine below_set ?_ GE389.out; refine below_set ?_ GE400.out; exact TB.out⟩
 ·rw [if_neg c7] at H
  have c7b0 : (t399 == 0) = false := beq_eq_false_iff_ne.mpr c7
  have c7b1 : (t399 != 0) = true := bne_iff_ne.mpr c7
  simp only [Option.some.injEq, Prod.mk.injEq] at H
  obtain ⟨rfl, rfl, rfl, rfl, rfl, rfl⟩ := H
  go_enter Try.func25, Try.ntmps25
  try go_wp2_with (first | ((with_reducible refine gate_dst (N := 3) rfl ?_); refine box_event ?hg (N := 3) ?hd (cs := #[.slice A0_0 l0_0.length c0_0, .int .i64 a0_1, .int .i64 a0_2, .int .i64 a0_3, .bool a0_4]) (t := 26) ?hr ?_; (case hd => rfl); (case hg => rfl); (case hr => first | (go_simp; done) | (go_simp; rfl)); intro gb387 hg w32 hbox hb; have n0_ := aA (Kd.V_below (Kd.V_elderB (by (with_reducible repeat (first | apply Kd.V_alloc | apply Kd.V_drewN | apply Kd.V_drew)); exact HO0_0.out) gb387 (Nat.le_of_eq hg.symm)) hb); have n1_ := aA (below_step mB hb); have n2_ := aA (hbox); have n3_ := aA ((bZ hg mB)); have n4_ := aA ((bZ hg mB)); clear HO0_0 HB; have HO0_0 := n0_; have HB := n1_; have BK387 := n2_; have GW387 := n3_; have GE387 := n4_; clear n0_ n1_ n2_ n3_ n4_ hb hbox hg) | ((with_reducible refine gate_dst (N := 5) rfl ?_); refine box_event ?hg (N := 5) ?hd (cs := #[.int .i64 a2_0, .int .i64 a2_1]) (t := 45) ?hr ?_; (case hd => rfl); (case hg => rfl); (case hr => first | (go_simp; done) | (go_simp; rfl)); intro gb388 hg w33 hbox hb; have n0_ := aA (Kd.V_below (Kd.V_elderB (by (with_reducible repeat (first | apply Kd.V_alloc | apply Kd.V_drewN | apply Kd.V_drew)); exact HO0_0.out) gb388 (Nat.le_of_eq hg.symm)) hb); have n1_ := aA (bB BK387.out hb); have n2_ := aA (below_step (mD1 GE387.out) hb); have n3_ := aA (hbox); have n4_ := aA ((bZ hg (mD1 GE387.out))); have n5_ := aA ((bZ hg (mD1 GE387.out))); have n6_ := aA ((bL hg BK387.out)); have n7_ := aA ((bG hg BK387.out)); clear HO0_0 BK387 HB; have HO0_0 := n0_; have BK387 := n1_; have HB := n2_; have BK388 := n3_; have GW388 := n4_; have GE388 := n5_; have NB387_388 := n6_; have NB388_387 := n7_; clear n0_ n1_ n2_ n3_ n4_ n5_ n6_ n7_ hb hbox hg) | ((with_reducible refine gate_dst (N := 6) rfl ?_); refine box_event ?hg (N := 6) ?hd (cs := #[.slice none 0 0, .int .i64 0, .int .i64 0, .int .i64 0, .bool false]) (t := 26) ?hr ?_; (case hd => rfl); (case hg => rfl); (case hr => first | (go_simp; done) | (go_simp; rfl)); intro gb389 hg w34 hbox hb; have n0_ := aA (Kd.V_below (Kd.V_elderB (by (with_reducible repeat (first | apply Kd.V_alloc | apply Kd.V_drewN | apply Kd.V_drew)); exact HO0_0.out) gb389 (Nat.le_of_eq hg.symm)) hb); have n1_ := aA (bB BK387.out hb); have n2_ := aA (bB BK388.out hb); have n3_ := aA (below_step (mD2 GE387.out GE388.out) hb); have n4_ := aA (hbox); have n5_ := aA ((bZ hg (mD2 GE387.out GE388.out))); have n6_ := aA ((bZ hg (mD2 GE387.out GE388.out))); have n7_ := aA ((bL hg BK387.out)); have n8_ := aA ((bG hg BK387.out)); have n9_ := aA ((bL hg BK388.out)); have n10_ := aA ((bG hg BK388.out)); clear HO0_0 BK387 BK388 HB; have HO0_0 := n0_; have BK387 := n1_; have BK388 := n2_; have HB := n3_; have BK389 := n4_; have GW389 := n5_; have GE389 := n6_; have NB387_389 := n7_; have NB389_387 := n8_; have NB388_389 := n9_; have NB389_388 := n10_; clear n0_ n1_ n2_ n3_ n4_ n5_ n6_ n7_ n8_ n9_ n10_ hb hbox hg))
  have n0_ := aA (Kd.V_drew HO0_0.out)
  have n1_ := aA (blk_drew BK387.out)
  have n2_ := aA (blk_drew BK388.out)
  have n3_ := aA (blk_drew BK389.out)
  have n4_ := aA (below_drew1 HB.out)
  clear HO0_0
  clear BK387
  clear BK388
  clear BK389
  clear HB
  have HO0_0 := n0_
  have BK387 := n1_
  have BK388 := n2_
  have BK389 := n3_
  have HB := n4_
  clear n0_ n1_ n2_ n3_ n4_
  refine start_ (n := 23) (S := fun w' => w'.cell? ⟨gb387, 0, none⟩ = some (.slice A0_0 l0_0.length c0_0) ∧ w'.cell? ⟨gb387, 1, none⟩ = some (.int .i64 a0_1) ∧ w'.cell? ⟨gb387, 2, none⟩ = some (.int .i64 a0_2) ∧ w'.cell? ⟨gb387, 3, none⟩ = some (.int .i64 a0_3) ∧ w'.cell? ⟨gb387, 4, none⟩ = some (.bool a0_4) ∧ w'.cell? ⟨gb388, 0, none⟩ = some (.int .i64 a2_0) ∧ w'.cell? ⟨gb388, 1, none⟩ = some (.int .i64 a2_1)) (ds := []) (bA 23 0) (by kernel_rfl) rfl rfl ⟨(blk_cell BK387.out 0).trans rfl, (blk_cell BK387.out 1).trans rfl, (blk_cell BK387.out 2).trans rfl, (blk_cell BK387.out 3).trans rfl, (blk_cell BK387.out 4).trans rfl, (blk_cell BK388.out 0).trans rfl, (blk_cell BK388.out 1).trans rfl⟩ (fun hHeld => ?_); refine with_tabW foghornref04_Append.tab1 foghornref04_Append.bits1 (fun HT_ HW_ => ?_)
  generalize w34.drew = w35 at HO0_0 BK387 BK388 BK389 HB hHeld ⊢
  refine pure_ (i := 1) (N := some 12) (v := ?_) (a' := ?_) (bA 23 2) rfl rfl (any_of HT_.out (by kernel_rfl)) (fun _ _ _ h => h) (Or.inl ⟨by rfl, ?_⟩) ?_ ?_
  rotate_left
  ·intro w'
   go_simp
   with_reducible rfl
  rotate_left
  ·exact mP
  refine pure_ (i := 3) (N := some 14) (v := ?_) (a' := ?_) (bA 23 10) rfl rfl (any_of HT_.out (by kernel_rfl)) (fun _ _ _ h => h) (Or.inl ⟨by rfl, ?_⟩) ?_ ?_
  rotate_left
  ·intro w'
   go_simp
   with_reducible rfl
  rotate_left
  ·exact mP
  refine pure_ (i := 5) (N := some 16) (v := ?_) (a' := ?_) (bA 23 42) rfl rfl (any_of HT_.out (by kernel_rfl)) (fun _ _ _ h => h) (Or.inl ⟨by rfl, ?_⟩) ?_ ?_
  rotate_left
  ·intro w'
   go_simp
   with_reducible rfl
  rotate_left
  ·exact mP
  refine pure_ (i := 8) (N := some 19) (v := ?_) (a' := ?_) (bA 23 298) rfl rfl (any_of HT_.out (by kernel_rfl)) (fun _ _ _ h => h) (Or.inl ⟨by rfl, ?_⟩) ?_ ?_
  rotate_left
  ·intro w'
   go_simp
   with_reducible rfl
  rotate_left
  ·exact mP
  refine pure_ (i := 10) (N := some 21) (v := ?_) (a' := ?_) (bA 23 1322) rfl rfl (any_of HT_.out (by kernel_rfl)) (fun _ _ _ h => h) (Or.inl ⟨by rfl, ?_⟩) ?_ ?_
  rotate_left
  ·intro w'
   go_simp
   with_reducible rfl
  rotate_left
  ·exact mP
  refine pure_ (i := 13) (N := some 24) (v := ?_) (a' := ?_) (bA 23 9514) rfl rfl (any_of HT_.out (by kernel_rfl)) (fun _ _ _ h => h) (Or.inl ⟨by rfl, ?_⟩) ?_ ?_
  rotate_left
  ·intro w'
   go_simp
   with_reducible rfl
  rotate_left
  ·exact mP
  refine take_ (i := 0) (N := some 11) (v := ?_) (a' := ?_) (bA 23 9515) rfl rfl (take_ofW HT_.out HW_.out (by kernel_rfl)) (fun _ _ _ h => h) (Or.inl ⟨by rfl, ?_⟩) hHeld ?_ ?_
  rotate_left
  ·rintro w' ⟨s0, s1, s2, s3, s4, s5, s6⟩
   go_simp
   with_reducible rfl
  rotate_left
  ·exact mP
  refine take_ (i := 2) (N := some 13) (v := ?_) (a' := ?_) (bA 23 9519) rfl rfl (take_ofW HT_.out HW_.out (by kernel_rfl)) (fun _ _ _ h => h) (Or.inl ⟨by rfl, ?_⟩) hHeld ?_ ?_
  rotate_left
  ·rintro w' ⟨s0, s1, s2, s3, s4, s5, s6⟩
   go_simp
   with_reducible rfl
  rotate_left
  ·exact mP
  refine take_ (i := 4) (N := some 15) (v := ?_) (a' := ?_) (bA 23 9535) rfl rfl (take_ofW HT_.out HW_.out (by kernel_rfl)) (fun _ _ _ h => h) (Or.inl ⟨by rfl, ?_⟩) hHeld ?_ ?_
  rotate_left
  ·rintro w' ⟨s0, s1, s2, s3, s4, s5, s6⟩
   go_simp
   with_reducible rfl
  rotate_left
  ·exact mP
  refine take_ (i := 6) (N := some 17) (v := ?_) (a' := ?_) (bA 23 9599) rfl rfl (take_ofW HT_.out HW_.out (by kernel_rfl)) (fun _ _ _ h => h) (Or.inl ⟨by rfl, ?_⟩) hHeld ?_ ?_
  rotate_left
  ·rintro w' ⟨s0, s1, s2, s3, s4, s5, s6⟩
   go_simp
   with_reducible rfl
  rotate_left
  ·exact mP
  refine take_ (i := 9) (N := some 20) (v := ?_) (a' := ?_) (bA 23 10111) rfl rfl (take_ofW HT_.out HW_.out (by kernel_rfl)) (fun _ _ _ h => h) (Or.inl ⟨by rfl, ?_⟩) hHeld ?_ ?_
  rotate_left
  ·rintro w' ⟨s0, s1, s2, s3, s4, s5, s6⟩
   go_simp
   with_reducible rfl
  rotate_left
  ·exact mP
  refine take_ (i := 11) (N := some 22) (v := ?_) (a' := ?_) (bA 23 12159) rfl rfl (take_ofW HT_.out HW_.out (by kernel_rfl)) (fun _ _ _ h => h) (Or.inl ⟨by rfl, ?_⟩) hHeld ?_ ?_
  rotate_left
  ·rintro w' ⟨s0, s1, s2, s3, s4, s5, s6⟩
   go_simp
   with_reducible rfl
  rotate_left
  ·exact mP
  refine pure_ (i := 12) (N := some 23) (v := ?_) (a' := ?_) (bA 23 16255) rfl rfl (any_of HT_.out (by kernel_rfl)) (fun _ _ _ h => h) (Or.inl ⟨by rfl, ?_⟩) ?_ ?_
  rotate_left
  ·intro w'
   go_simp
   with_reducible rfl
  rotate_left
  ·exact mP
  refine take_ (i := 15) (N := some 26) (v := ?_) (a' := ?_) (bA 23 49023) rfl rfl (take_ofW HT_.out HW_.out (by kernel_rfl)) (fun _ _ _ h => h) (Or.inl ⟨by rfl, ?_⟩) hHeld ?_ ?_
  rotate_left
  ·rintro w' ⟨s0, s1, s2, s3, s4, s5, s6⟩
   go_simp
   with_reducible rfl
  rotate_left
  ·exact mP
  refine join_ (σ := Value × Nat) 2 (bA 23 2097151) (fun s_ => [(18, .int .i64 t390), (25, .string t391), (27, .tuple #[.agg #[s_.1, .int .i64 t395, .int .i64 t396, .int .i64 t397, .bool t398], .int .i64 t399]), (8, .pointer (some ⟨s_.2, 0, none⟩)), (10, .tuple #[.agg #[s_.1, .int .i64 t395, .int .i64 t396, .int .i64 t397, .bool t398], .int .i64 t399]), (28, .agg #[s_.1, .int .i64 t395, .int .i64 t396, .int .i64 t397, .bool t398]), (29, .int .i64 t399)]) (fun s_ w' => (w'.cell? ⟨gb387, 0, none⟩ = some (.slice A0_0 l0_0.length c0_0) ∧ w'.cell? ⟨gb387, 1, none⟩ = some (.int .i64 a0_1) ∧ w'.cell? ⟨gb387, 2, none⟩ = some (.int .i64 a0_2) ∧ w'.cell? ⟨gb387, 3, none⟩ = some (.int .i64 a0_3) ∧ w'.cell? ⟨gb387, 4, none⟩ = some (.bool a0_4) ∧ w'.cell? ⟨gb388, 0, none⟩ = some (.int .i64 a2_0) ∧ w'.cell? ⟨gb388, 1, none⟩ = some (.int .i64 a2_1)) ∧ (Kd.V Kd.string 9 w' w.heap.size (fun k_ => (P0_0_ k_ ∨ w.heap.size ≤ k_) ∧ k_ ≠ gb387 ∧ k_ ≠ gb388 ∧ k_ ≠ gb389 ∧ k_ ≠ s_.2) (.slice A0_0 l0_0.length c0_0) l0_0) ∧ (Kd.V Kd.string 9 w' w.heap.size (fun k_ => (P0_0_ k_ ∨ w.heap.size ≤ k_) ∧ k_ ≠ gb387 ∧ k_ ≠ gb388 ∧ k_ ≠ gb389 ∧ k_ ≠ s_.2) s_.1 t392) ∧ (w'.heap[gb387]? = some (.cells #[.slice A0_0 l0_0.length c0_0, .int .i64 a0_1, .int .i64 a0_2, .int .i64 a0_3, .bool a0_4] 26 (0, 0))) ∧ (w'.heap[gb388]? = some (.cells #[.int .i64 a2_0, .int .i64 a2_1] 45 (0, 0))) ∧ (w'.heap[gb389]? = some (.cells #[.slice none 0 0, .int .i64 0, .int .i64 0, .int .i64 0, .bool false] 26 (0, 0))) ∧ (w'.heap[s_.2]? = some (.cells #[.slice none 0 0, .int .i64 0, .int .i64 0, .int .i64 0, .bool false] 26 (0, 0))) ∧ (w.heap.size ≤ s_.2) ∧ (w.heap.size ≤ s_.2) ∧ (gb387 ≠ s_.2) ∧ (s_.2 ≠ gb387) ∧ (gb388 ≠ s_.2) ∧ (s_.2 ≠ gb388) ∧ (gb389 ≠ s_.2) ∧ (s_.2 ≠ gb389) ∧ (Below w.heap.size w w')) ?_ ?_
  rotate_left
  ·intro hCont
   refine two_ (i := 7) (j := 20) (Ni := some 18) (Nj := some 8) (bA 23 49151) (bA 23 1097599) rfl rfl rfl rfl (two_of HT_.out (by kernel_rfl)) (by decide) (by decide) (fun K hK => ?_) (fun K hK => ?_)
   ·skip
    refine goes_ Try.func46 (by kernel_rfl) rfl #[.agg #[.slice A0_0 l0_0.length c0_0], .int .i64 a0_1, .int .i64 a0_2] (by rfl) rfl rfl mS ?_
    with_reducible refine (foghornref04_place.calls _ _ l0_0 a0_1 a0_2 t390 _ ?side1 ?side2 A4.out).mono ?_
    (case side1 => exact mC ((Kd.V_reads' HO0_0.out).2.2))
    (case side2 => exact (Kd.V_reads' HO0_0.out).2.1)
    rintro e w36 ⟨rfl, hb⟩
    refine ⟨_, rfl, ?_⟩
    have n0_ := aA (Kd.V_below (by (with_reducible repeat (first | apply Kd.V_alloc | apply Kd.V_drewN | apply Kd.V_drew)); exact HO0_0.out) hb)
    have n1_ := aA (bB BK387.out hb)
    have n2_ := aA (bB BK388.out hb)
    have n3_ := aA (bB BK389.out hb)
    have n4_ := aA (below_step (mD3 GE387.out GE388.out GE389.out) hb)
    clear HO0_0
    clear BK387
    clear BK388
    clear BK389
    clear HB
    have HO0_0 := n0_
    have BK387 := n1_
    have BK388 := n2_
    have BK389 := n3_
    have HB := n4_
    clear n0_ n1_ n2_ n3_ n4_
    (try clear hb)
    (try clear hb2)
    (try clear hk)
    (try clear hi)
    refine hK.out _ _ ⟨(blk_cell BK387.out 0).trans rfl, (blk_cell BK387.out 1).trans rfl, (blk_cell BK387.out 2).trans rfl, (blk_cell BK387.out 3).trans rfl, (blk_cell BK387.out 4).trans rfl, (blk_cell BK388.out 0).trans rfl, (blk_cell BK388.out 1).trans rfl⟩ (fun hHeld => ?_)
    clear hK K
    refine norm_ (a' := ?_) ?_ ?_
    rotate_left
    ·show Act.put _ (some 18) _ = _
     simp only [Act.put, List.setIfInBounds_toArray, List.set_cons_zero, List.set_cons_succ, i64_w, i32_w]
     rfl
    refine two_ (i := 14) (j := 20) (Ni := some 25) (Nj := some 8) (bA 23 65535) (bA 23 1097727) rfl rfl rfl rfl (two_of HT_.out (by kernel_rfl)) (by decide) (by decide) (fun K hK => ?_) (fun K hK => ?_)
    ·skip
     refine goes_ Try.func42 (by kernel_rfl) rfl #[.int .i64 a0_1, .int .i64 (wrap64 (a0_2 + 1)), .string a1] (by rfl) rfl rfl mS ?_
     with_reducible refine (foghornref03_Seal.calls a0_1 (wrap64 (a0_2 + 1)) a1 t391 _ A5.out).mono ?_
     rintro e w37 ⟨rfl, hb⟩
     refine ⟨_, rfl, ?_⟩
     have n0_ := aA (Kd.V_below (by (with_reducible repeat (first | apply Kd.V_alloc | apply Kd.V_drewN | apply Kd.V_drew)); exact HO0_0.out) hb)
     have n1_ := aA (bB BK387.out hb)
     have n2_ := aA (bB BK388.out hb)
     have n3_ := aA (bB BK389.out hb)
     have n4_ := aA (below_step (mD3 GE387.out GE388.out GE389.out) hb)
     clear HO0_0
     clear BK387
     clear BK388
     clear BK389
     clear HB
     have HO0_0 := n0_
     have BK387 := n1_
     have BK388 := n2_
     have BK389 := n3_
     have HB := n4_
     clear n0_ n1_ n2_ n3_ n4_
     (try clear hb)
     (try clear hb2)
     (try clear hk)
     (try clear hi)
     refine hK.out _ _ ⟨(blk_cell BK387.out 0).trans rfl, (blk_cell BK387.out 1).trans rfl, (blk_cell BK387.out 2).trans rfl, (blk_cell BK387.out 3).trans rfl, (blk_cell BK387.out 4).trans rfl, (blk_cell BK388.out 0).trans rfl, (blk_cell BK388.out 1).trans rfl⟩ (fun hHeld => ?_)
     clear hK K
     refine norm_ (a' := ?_) ?_ ?_
     rotate_left
     ·show Act.put _ (some 25) _ = _
      simp only [Act.put, List.setIfInBounds_toArray, List.set_cons_zero, List.set_cons_succ, i64_w, i32_w]
      rfl
     refine two_ (i := 16) (j := 20) (Ni := some 27) (Nj := some 8) (bA 23 131071) (bA 23 1114111) rfl rfl rfl rfl (two_of HT_.out (by kernel_rfl)) (by decide) (by decide) (fun K hK => ?_) (fun K hK => ?_)
     ·skip
      refine goes_ Try.func53 (by kernel_rfl) rfl #[.agg #[.slice A0_0 l0_0.length c0_0, .int .i64 a0_1, .int .i64 a0_2, .int .i64 a0_3, .bool a0_4], .int .i64 t390, .string t391, .agg #[.int .i64 a2_0, .int .i64 a2_1]] (by rfl) rfl rfl mS ?_
      with_reducible refine (foghornref04_write.calls k (fun k_ => ((((P0_0_ k_ ∨ w.heap.size ≤ k_) ∧ k_ ≠ gb387) ∧ k_ ≠ gb388) ∧ k_ ≠ gb389)) _ _ l0_0 a0_1 a0_2 a0_3 a0_4 t390 t391 a2_0 a2_1 t392 t395 t396 t397 t398 t399 _ ?side1 A6.out).mono ?_
      (case side1 => exact HO0_0.out)
      rintro e w38 ⟨v393, rfl, ho0, hb⟩
      refine ⟨_, rfl, ?_⟩
      have n0_ := aA (Kd.V_below (by (with_reducible repeat (first | apply Kd.V_alloc | apply Kd.V_drewN | apply Kd.V_drew)); exact HO0_0.out) hb)
      have n1_ := aA (Kd.V_lower (Kd.V_mono (ok' := fun k_ => (P0_0_ k_ ∨ w.heap.size ≤ k_) ∧ k_ ≠ gb387 ∧ k_ ≠ gb388 ∧ k_ ≠ gb389) ho0 (fun k_ hk_ => ⟨Or.elim hk_ (fun hs_ => hs_.1.1.1) (fun hn_ => (.inr (Nat.le_trans (below_size (mD3 GE387.out GE388.out GE389.out)) hn_))), Or.elim hk_ (fun hs_ => hs_.1.1.2) (fun hn_ => (Kd.freshB (g := gb387) (o := .cells #[.slice A0_0 l0_0.length c0_0, .int .i64 a0_1, .int .i64 a0_2, .int .i64 a0_3, .bool a0_4] 26 (0, 0)) (mK BK387.out) k_ hn_)), Or.elim hk_ (fun hs_ => hs_.1.2) (fun hn_ => (Kd.freshB (g := gb388) (o := .cells #[.int .i64 a2_0, .int .i64 a2_1] 45 (0, 0)) (mK BK388.out) k_ hn_)), Or.elim hk_ (fun hs_ => hs_.2) (fun hn_ => (Kd.freshB (g := gb389) (o := .cells #[.slice none 0 0, .int .i64 0, .int .i64 0, .int .i64 0, .bool false] 26 (0, 0)) (mK BK389.out) k_ hn_))⟩)) (below_size (mD3 GE387.out GE388.out GE389.out)))
      have n2_ := aA (bB BK387.out hb)
      have n3_ := aA (bB BK388.out hb)
      have n4_ := aA (bB BK389.out hb)
      have n5_ := aA (below_step (mD3 GE387.out GE388.out GE389.out) hb)
      clear HO0_0
      clear BK387
      clear BK388
      clear BK389
      clear HB
      have HO0_0 := n0_
      have HO394 := n1_
      have BK387 := n2_
      have BK388 := n3_
      have BK389 := n4_
      have HB := n5_
      clear n0_ n1_ n2_ n3_ n4_ n5_
      (try clear hb)
      (try clear hb2)
      (try clear hk)
      (try clear hi)
      (try clear ho0)
      refine hK.out _ _ ⟨(blk_cell BK387.out 0).trans rfl, (blk_cell BK387.out 1).trans rfl, (blk_cell BK387.out 2).trans rfl, (blk_cell BK387.out 3).trans rfl, (blk_cell BK387.out 4).trans rfl, (blk_cell BK388.out 0).trans rfl, (blk_cell BK388.out 1).trans rfl⟩ (fun hHeld => ?_)
      clear hK K
      refine norm_ (a' := ?_) ?_ ?_
      rotate_left
      ·show Act.put _ (some 27) _ = _
       simp only [Act.put, List.setIfInBounds_toArray, List.set_cons_zero, List.set_cons_succ, i64_w, i32_w]
       rfl
      refine pure_ (i := 17) (N := some 10) (v := ?_) (a' := ?_) (bA 23 262143) rfl rfl (any_of HT_.out (by kernel_rfl)) (fun _ _ _ h => h) (Or.inl ⟨by rfl, ?_⟩) ?_ ?_
      rotate_left
      ·intro w'
       go_simp
       with_reducible rfl
      rotate_left
      ·exact mP
      refine pure_ (i := 18) (N := some 28) (v := ?_) (a' := ?_) (bA 23 524287) rfl rfl (any_of HT_.out (by kernel_rfl)) (fun _ _ _ h => h) (Or.inl ⟨by rfl, ?_⟩) ?_ ?_
      rotate_left
      ·intro w'
       go_simp
       with_reducible rfl
      rotate_left
      ·exact mP
      refine pure_ (i := 19) (N := some 29) (v := ?_) (a' := ?_) (bA 23 1048575) rfl rfl (any_of HT_.out (by kernel_rfl)) (fun _ _ _ h => h) (Or.inl ⟨by rfl, ?_⟩) ?_ ?_
      rotate_left
      ·intro w'
       go_simp
       with_reducible rfl
      rotate_left
      ·exact mP
      refine one_ (i := 20) (N := some 8) (bA 23 2097151) rfl rfl (one_of HT_.out (by kernel_rfl)) (by decide) (fun K hK => ?_)
      refine box_step ?hg (N := 8) ?hd (cs := #[.slice none 0 0, .int .i64 0, .int .i64 0, .int .i64 0, .bool false]) (t := 26) ?hr ?_; (case hd => rfl); (case hg => rfl); (case hr => first | (go_simp; done) | (go_simp; rfl))
      intro gb400 hg w39 hbox hb
      have n0_ := aA (Kd.V_below (Kd.V_elderB (by (with_reducible repeat (first | apply Kd.V_alloc | apply Kd.V_drewN | apply Kd.V_drew)); exact HO0_0.out) gb400 (Nat.le_of_eq hg.symm)) hb)
      have n1_ := aA (Kd.V_below (Kd.V_elderB (by (with_reducible repeat (first | apply Kd.V_alloc | apply Kd.V_drewN | apply Kd.V_drew)); exact HO394.out) gb400 (Nat.le_of_eq hg.symm)) hb)
      have n2_ := aA (bB BK387.out hb)
      have n3_ := aA (bB BK388.out hb)
      have n4_ := aA (bB BK389.out hb)
      have n5_ := aA (below_step (mD3 GE387.out GE388.out GE389.out) hb)
      have n6_ := aA (hbox)
      have n7_ := aA ((bZ hg (mD3 GE387.out GE388.out GE389.out)))
      have n8_ := aA ((bZ hg (mD3 GE387.out GE388.out GE389.out)))
      have n9_ := aA ((bL hg BK387.out))
      have n10_ := aA ((bG hg BK387.out))
      have n11_ := aA ((bL hg BK388.out))
      have n12_ := aA ((bG hg BK388.out))
      have n13_ := aA ((bL hg BK389.out))
      have n14_ := aA ((bG hg BK389.out))
      clear HO0_0
      clear HO394
      clear BK387
      clear BK388
      clear BK389
      clear HB
      have HO0_0 := n0_
      have HO394 := n1_
      have BK387 := n2_
      have BK388 := n3_
      have BK389 := n4_
      have HB := n5_
      have BK400 := n6_
      have GW400 := n7_
      have GE400 := n8_
      have NB387_400 := n9_
      have NB400_387 := n10_
      have NB388_400 := n11_
      have NB400_388 := n12_
      have NB389_400 := n13_
      have NB400_389 := n14_
      clear n0_ n1_ n2_ n3_ n4_ n5_ n6_ n7_ n8_ n9_ n10_ n11_ n12_ n13_ n14_
      clear hb hbox hg
      refine hK.out _ _ ⟨(blk_cell BK387.out 0).trans rfl, (blk_cell BK387.out 1).trans rfl, (blk_cell BK387.out 2).trans rfl, (blk_cell BK387.out 3).trans rfl, (blk_cell BK387.out 4).trans rfl, (blk_cell BK388.out 0).trans rfl, (blk_cell BK388.out 1).trans rfl⟩ (fun hHeld => ?_)
      clear hK K
      refine norm_ (a' := ?_) ?_ ?_
      rotate_left
      ·show Act.put _ (some 8) _ = _
       simp only [Act.put, List.setIfInBounds_toArray, List.set_cons_zero, List.set_cons_succ, i64_w, i32_w]
       rfl
      exact norm_ (by simp only [putAll, Act.put, List.setIfInBounds_toArray, List.set_cons_zero, List.set_cons_succ]) (hCont (v393, gb400) _ ⟨hHeld, (by (with_reducible repeat (first | apply Kd.V_alloc | apply Kd.V_drewN | apply Kd.V_drew)); exact Kd.V_mono HO0_0.out (fun _ hk => ⟨hk.1.1.1.1, ⟨hk.1.1.1.2, ⟨hk.1.1.2, ⟨hk.1.2, hk.2⟩⟩⟩⟩)), (by (with_reducible repeat (first | apply Kd.V_alloc | apply Kd.V_drewN | apply Kd.V_drew)); exact Kd.V_mono HO394.out (fun _ hk => ⟨hk.1.1, ⟨hk.1.2.1, ⟨hk.1.2.2.1, ⟨hk.1.2.2.2, hk.2⟩⟩⟩⟩)), (mK BK387.out), (mK BK388.out), (mK BK389.out), (mK BK400.out), GW400.out, GE400.out, NB387_400.out, NB400_387.out, NB388_400.out, NB400_388.out, NB389_400.out, NB400_389.out, (by repeat (first | (with_reducible first | exact HB.out | apply below_alloc | apply pw_below_drewN | apply below_drew1 | refine below_set ?_ GE387.out | refine below_set ?_ GE388.out | refine below_set ?_ GE389.out | refine below_set ?_ GE400.out) | exact HB.out))⟩)
     ·skip
      refine box_step ?hg (N := 8) ?hd (cs := #[.slice none 0 0, .int .i64 0, .int .i64 0, .int .i64 0, .bool false]) (t := 26) ?hr ?_; (case hd => rfl); (case hg => rfl); (case hr => first | (go_simp; done) | (go_simp; rfl))
      intro gb400 hg w38 hbox hb
      have n0_ := aA (Kd.V_below (Kd.V_elderB (by (with_reducible repeat (first | apply Kd.V_alloc | apply Kd.V_drewN | apply Kd.V_drew)); exact HO0_0.out) gb400 (Nat.le_of_eq hg.symm)) hb)
      have n1_ := aA (bB BK387.out hb)
      have n2_ := aA (bB BK388.out hb)
      have n3_ := aA (bB BK389.out hb)
      have n4_ := aA (below_step (mD3 GE387.out GE388.out GE389.out) hb)
      have n5_ := aA (hbox)
      have n6_ := aA ((bZ hg (mD3 GE387.out GE388.out GE389.out)))
      have n7_ := aA ((bZ hg (mD3 GE387.out GE388.out GE389.out)))
      have n8_ := aA ((bL hg BK387.out))
      have n9_ := aA ((bG hg BK387.out))
      have n10_ := aA ((bL hg BK388.out))
      have n11_ := aA ((bG hg BK388.out))
      have n12_ := aA ((bL hg BK389.out))
      have n13_ := aA ((bG hg BK389.out))
      clear HO0_0
      clear BK387
      clear BK388
      clear BK389
      clear HB
      have HO0_0 := n0_
      have BK387 := n1_
      have BK388 := n2_
      have BK389 := n3_
      have HB := n4_
      have BK400 := n5_
      have GW400 := n6_
      have GE400 := n7_
      have NB387_400 := n8_
      have NB400_387 := n9_
      have NB388_400 := n10_
      have NB400_388 := n11_
      have NB389_400 := n12_
      have NB400_389 := n13_
      clear n0_ n1_ n2_ n3_ n4_ n5_ n6_ n7_ n8_ n9_ n10_ n11_ n12_ n13_
      clear hb hbox hg
      refine hK.out _ _ ⟨(blk_cell BK387.out 0).trans rfl, (blk_cell BK387.out 1).trans rfl, (blk_cell BK387.out 2).trans rfl, (blk_cell BK387.out 3).trans rfl, (blk_cell BK387.out 4).trans rfl, (blk_cell BK388.out 0).trans rfl, (blk_cell BK388.out 1).trans rfl⟩ (fun hHeld => ?_)
      clear hK K
      refine norm_ (a' := ?_) ?_ ?_
      rotate_left
      ·show Act.put _ (some 8) _ = _
       simp only [Act.put, List.setIfInBounds_toArray, List.set_cons_zero, List.set_cons_succ, i64_w, i32_w]
       rfl
      refine one_ (i := 16) (N := some 27) (bA 23 1179647) rfl rfl (one_of HT_.out (by kernel_rfl)) (by decide) (fun K hK => ?_)
      refine goes_ Try.func53 (by kernel_rfl) rfl #[.agg #[.slice A0_0 l0_0.length c0_0, .int .i64 a0_1, .int .i64 a0_2, .int .i64 a0_3, .bool a0_4], .int .i64 t390, .string t391, .agg #[.int .i64 a2_0, .int .i64 a2_1]] (by rfl) rfl rfl mS ?_
      with_reducible refine (foghornref04_write.calls k (fun k_ => (((((P0_0_ k_ ∨ w.heap.size ≤ k_) ∧ k_ ≠ gb387) ∧ k_ ≠ gb388) ∧ k_ ≠ gb389) ∧ k_ ≠ gb400)) _ _ l0_0 a0_1 a0_2 a0_3 a0_4 t390 t391 a2_0 a2_1 t392 t395 t396 t397 t398 t399 _ ?side1 A6.out).mono ?_
      (case side1 => exact HO0_0.out)
      rintro e w39 ⟨v393, rfl, ho0, hb⟩
      refine ⟨_, rfl, ?_⟩
      have n0_ := aA (Kd.V_below (by (with_reducible repeat (first | apply Kd.V_alloc | apply Kd.V_drewN | apply Kd.V_drew)); exact HO0_0.out) hb)
      have n1_ := aA (Kd.V_lower (Kd.V_mono (ok' := fun k_ => (P0_0_ k_ ∨ w.heap.size ≤ k_) ∧ k_ ≠ gb387 ∧ k_ ≠ gb388 ∧ k_ ≠ gb389 ∧ k_ ≠ gb400) ho0 (fun k_ hk_ => ⟨Or.elim hk_ (fun hs_ => hs_.1.1.1.1) (fun hn_ => (.inr (Nat.le_trans (below_size (by repeat (first | (with_reducible first | exact HB.out | apply below_alloc | apply pw_below_drewN | apply below_drew1 | refine below_set ?_ GE387.out | refine below_set ?_ GE388.out | refine below_set ?_ GE389.out | refine below_set ?_ GE400.out) | exact HB.out))) hn_))), Or.elim hk_ (fun hs_ => hs_.1.1.1.2) (fun hn_ => (Kd.freshB (g := gb387) (o := .cells #[.slice A0_0 l0_0.length c0_0, .int .i64 a0_1, .int .i64 a0_2, .int .i64 a0_3, .bool a0_4] 26 (0, 0)) (mK BK387.out) k_ hn_)), Or.elim hk_ (fun hs_ => hs_.1.1.2) (fun hn_ => (Kd.freshB (g := gb388) (o := .cells #[.int .i64 a2_0, .int .i64 a2_1] 45 (0, 0)) (mK BK388.out) k_ hn_)), Or.elim hk_ (fun hs_ => hs_.1.2) (fun hn_ => (Kd.freshB (g := gb389) (o := .cells #[.slice none 0 0, .int .i64 0, .int .i64 0, .int .i64 0, .bool false] 26 (0, 0)) (mK BK389.out) k_ hn_)), Or.elim hk_ (fun hs_ => hs_.2) (fun hn_ => (Kd.freshB (g := gb400) (o := .cells #[.slice none 0 0, .int .i64 0, .int .i64 0, .int .i64 0, .bool false] 26 (0, 0)) (mK BK400.out) k_ hn_))⟩)) (below_size (by repeat (first | (with_reducible first | exact HB.out | apply below_alloc | apply pw_below_drewN | apply below_drew1 | refine below_set ?_ GE387.out | refine below_set ?_ GE388.out | refine below_set ?_ GE389.out | refine below_set ?_ GE400.out) | exact HB.out))))
      have n2_ := aA (bB BK387.out hb)
      have n3_ := aA (bB BK388.out hb)
      have n4_ := aA (bB BK389.out hb)
      have n5_ := aA (bB BK400.out hb)
      have n6_ := aA (below_step (by repeat (first | (with_reducible first | exact HB.out | apply below_alloc | apply pw_below_drewN | apply below_drew1 | refine below_set ?_ GE387.out | refine below_set ?_ GE388.out | refine below_set ?_ GE389.out | refine below_set ?_ GE400.out) | exact HB.out)) hb)
      clear HO0_0
      clear BK387
      clear BK388
      clear BK389
      clear BK400
      clear HB
      have HO0_0 := n0_
      have HO394 := n1_
      have BK387 := n2_
      have BK388 := n3_
      have BK389 := n4_
      have BK400 := n5_
      have HB := n6_
      clear n0_ n1_ n2_ n3_ n4_ n5_ n6_
      (try clear hb)
      (try clear hb2)
      (try clear hk)
      (try clear hi)
      (try clear ho0)
      refine hK.out _ _ ⟨(blk_cell BK387.out 0).trans rfl, (blk_cell BK387.out 1).trans rfl, (blk_cell BK387.out 2).trans rfl, (blk_cell BK387.out 3).trans rfl, (blk_cell BK387.out 4).trans rfl, (blk_cell BK388.out 0).trans rfl, (blk_cell BK388.out 1).trans rfl⟩ (fun hHeld => ?_)
      clear hK K
      refine norm_ (a' := ?_) ?_ ?_
      rotate_left
      ·show Act.put _ (some 27) _ = _
       simp only [Act.put, List.setIfInBounds_toArray, List.set_cons_zero, List.set_cons_succ, i64_w, i32_w]
       rfl
      refine pure_ (i := 17) (N := some 10) (v := ?_) (a' := ?_) (bA 23 1310719) rfl rfl (any_of HT_.out (by kernel_rfl)) (fun _ _ _ h => h) (Or.inl ⟨by rfl, ?_⟩) ?_ ?_
      rotate_left
      ·intro w'
       go_simp
       with_reducible rfl
      rotate_left
      ·exact mP
      refine pure_ (i := 18) (N := some 28) (v := ?_) (a' := ?_) (bA 23 1572863) rfl rfl (any_of HT_.out (by kernel_rfl)) (fun _ _ _ h => h) (Or.inl ⟨by rfl, ?_⟩) ?_ ?_
      rotate_left
      ·intro w'
       go_simp
       with_reducible rfl
      rotate_left
      ·exact mP
      refine pure_ (i := 19) (N := some 29) (v := ?_) (a' := ?_) (bA 23 2097151) rfl rfl (any_of HT_.out (by kernel_rfl)) (fun _ _ _ h => h) (Or.inl ⟨by rfl, ?_⟩) ?_ ?_
      rotate_left
      ·intro w'
       go_simp
       with_reducible rfl
      rotate_left
      ·exact mP
      exact norm_ (by simp only [putAll, Act.put, List.setIfInBounds_toArray, List.set_cons_zero, List.set_cons_succ]) (hCont (v393, gb400) _ ⟨hHeld, (by (with_reducible repeat (first | apply Kd.V_alloc | apply Kd.V_drewN | apply Kd.V_drew)); exact Kd.V_mono HO0_0.out (fun _ hk => ⟨hk.1.1.1.1, ⟨hk.1.1.1.2, ⟨hk.1.1.2, ⟨hk.1.2, hk.2⟩⟩⟩⟩)), (by (with_reducible repeat (first | apply Kd.V_alloc | apply Kd.V_drewN | apply Kd.V_drew)); exact HO394.out), (mK BK387.out), (mK BK388.out), (mK BK389.out), (mK BK400.out), GW400.out, GE400.out, NB387_400.out, NB400_387.out, NB388_400.out, NB400_388.out, NB389_400.out, NB400_389.out, (by repeat (first | (with_reducible first | exact HB.out | apply below_alloc | apply pw_below_drewN | apply below_drew1 | refine below_set ?_ GE387.out | refine below_set ?_ GE388.out | refine below_set ?_ GE389.out | refine below_set ?_ GE400.out) | exact HB.out))⟩)
    ·skip
     refine box_step ?hg (N := 8) ?hd (cs := #[.slice none 0 0, .int .i64 0, .int .i64 0, .int .i64 0, .bool false]) (t := 26) ?hr ?_; (case hd => rfl); (case hg => rfl); (case hr => first | (go_simp; done) | (go_simp; rfl))
     intro gb400 hg w37 hbox hb
     have n0_ := aA (Kd.V_below (Kd.V_elderB (by (with_reducible repeat (first | apply Kd.V_alloc | apply Kd.V_drewN | apply Kd.V_drew)); exact HO0_0.out) gb400 (Nat.le_of_eq hg.symm)) hb)
     have n1_ := aA (bB BK387.out hb)
     have n2_ := aA (bB BK388.out hb)
     have n3_ := aA (bB BK389.out hb)
     have n4_ := aA (below_step (mD3 GE387.out GE388.out GE389.out) hb)
     have n5_ := aA (hbox)
     have n6_ := aA ((bZ hg (mD3 GE387.out GE388.out GE389.out)))
     have n7_ := aA ((bZ hg (mD3 GE387.out GE388.out GE389.out)))
     have n8_ := aA ((bL hg BK387.out))
     have n9_ := aA ((bG hg BK387.out))
     have n10_ := aA ((bL hg BK388.out))
     have n11_ := aA ((bG hg BK388.out))
     have n12_ := aA ((bL hg BK389.out))
     have n13_ := aA ((bG hg BK389.out))
     clear HO0_0
     clear BK387
     clear BK388
     clear BK389
     clear HB
     have HO0_0 := n0_
     have BK387 := n1_
     have BK388 := n2_
     have BK389 := n3_
     have HB := n4_
     have BK400 := n5_
     have GW400 := n6_
     have GE400 := n7_
     have NB387_400 := n8_
     have NB400_387 := n9_
     have NB388_400 := n10_
     have NB400_388 := n11_
     have NB389_400 := n12_
     have NB400_389 := n13_
     clear n0_ n1_ n2_ n3_ n4_ n5_ n6_ n7_ n8_ n9_ n10_ n11_ n12_ n13_
     clear hb hbox hg
     refine hK.out _ _ ⟨(blk_cell BK387.out 0).trans rfl, (blk_cell BK387.out 1).trans rfl, (blk_cell BK387.out 2).trans rfl, (blk_cell BK387.out 3).trans rfl, (blk_cell BK387.out 4).trans rfl, (blk_cell BK388.out 0).trans rfl, (blk_cell BK388.out 1).trans rfl⟩ (fun hHeld => ?_)
     clear hK K
     refine norm_ (a' := ?_) ?_ ?_
     rotate_left
     ·show Act.put _ (some 8) _ = _
      simp only [Act.put, List.setIfInBounds_toArray, List.set_cons_zero, List.set_cons_succ, i64_w, i32_w]
      rfl
     refine one_ (i := 14) (N := some 25) (bA 23 1114111) rfl rfl (one_of HT_.out (by kernel_rfl)) (by decide) (fun K hK => ?_)
     refine goes_ Try.func42 (by kernel_rfl) rfl #[.int .i64 a0_1, .int .i64 (wrap64 (a0_2 + 1)), .string a1] (by rfl) rfl rfl mS ?_
     with_reducible refine (foghornref03_Seal.calls a0_1 (wrap64 (a0_2 + 1)) a1 t391 _ A5.out).mono ?_
     rintro e w38 ⟨rfl, hb⟩
     refine ⟨_, rfl, ?_⟩
     have n0_ := aA (Kd.V_below (by (with_reducible repeat (first | apply Kd.V_alloc | apply Kd.V_drewN | apply Kd.V_drew)); exact HO0_0.out) hb)
     have n1_ := aA (bB BK387.out hb)
     have n2_ := aA (bB BK388.out hb)
     have n3_ := aA (bB BK389.out hb)
     have n4_ := aA (bB BK400.out hb)
     have n5_ := aA (below_step (by repeat (first | (with_reducible first | exact HB.out | apply below_alloc | apply pw_below_drewN | apply below_drew1 | refine below_set ?_ GE387.out | refine below_set ?_ GE388.out | refine below_set ?_ GE389.out | refine below_set ?_ GE400.out) | exact HB.out)) hb)
     clear HO0_0
     clear BK387
     clear BK388
     clear BK389
     clear BK400
     clear HB
     have HO0_0 := n0_
     have BK387 := n1_
     have BK388 := n2_
     have BK389 := n3_
     have BK400 := n4_
     have HB := n5_
     clear n0_ n1_ n2_ n3_ n4_ n5_
     (try clear hb)
     (try clear hb2)
     (try clear hk)
     (try clear hi)
     refine hK.out _ _ ⟨(blk_cell BK387.out 0).trans rfl, (blk_cell BK387.out 1).trans rfl, (blk_cell BK387.out 2).trans rfl, (blk_cell BK387.out 3).trans rfl, (blk_cell BK387.out 4).trans rfl, (blk_cell BK388.out 0).trans rfl, (blk_cell BK388.out 1).trans rfl⟩ (fun hHeld => ?_)
     clear hK K
     refine norm_ (a' := ?_) ?_ ?_
     rotate_left
     ·show Act.put _ (some 25) _ = _
      simp only [Act.put, List.setIfInBounds_toArray, List.set_cons_zero, List.set_cons_succ, i64_w, i32_w]
      rfl
     refine one_ (i := 16) (N := some 27) (bA 23 1179647) rfl rfl (one_of HT_.out (by kernel_rfl)) (by decide) (fun K hK => ?_)
     refine goes_ Try.func53 (by kernel_rfl) rfl #[.agg #[.slice A0_0 l0_0.length c0_0, .int .i64 a0_1, .int .i64 a0_2, .int .i64 a0_3, .bool a0_4], .int .i64 t390, .string t391, .agg #[.int .i64 a2_0, .int .i64 a2_1]] (by rfl) rfl rfl mS ?_
     with_reducible refine (foghornref04_write.calls k (fun k_ => (((((P0_0_ k_ ∨ w.heap.size ≤ k_) ∧ k_ ≠ gb387) ∧ k_ ≠ gb388) ∧ k_ ≠ gb389) ∧ k_ ≠ gb400)) _ _ l0_0 a0_1 a0_2 a0_3 a0_4 t390 t391 a2_0 a2_1 t392 t395 t396 t397 t398 t399 _ ?side1 A6.out).mono ?_
     (case side1 => exact HO0_0.out)
     rintro e w39 ⟨v393, rfl, ho0, hb⟩
     refine ⟨_, rfl, ?_⟩
     have n0_ := aA (Kd.V_below (by (with_reducible repeat (first | apply Kd.V_alloc | apply Kd.V_drewN | apply Kd.V_drew)); exact HO0_0.out) hb)
     have n1_ := aA (Kd.V_lower (Kd.V_mono (ok' := fun k_ => (P0_0_ k_ ∨ w.heap.size ≤ k_) ∧ k_ ≠ gb387 ∧ k_ ≠ gb388 ∧ k_ ≠ gb389 ∧ k_ ≠ gb400) ho0 (fun k_ hk_ => ⟨Or.elim hk_ (fun hs_ => hs_.1.1.1.1) (fun hn_ => (.inr (Nat.le_trans (below_size (by repeat (first | (with_reducible first | exact HB.out | apply below_alloc | apply pw_below_drewN | apply below_drew1 | refine below_set ?_ GE387.out | refine below_set ?_ GE388.out | refine below_set ?_ GE389.out | refine below_set ?_ GE400.out) | exact HB.out))) hn_))), Or.elim hk_ (fun hs_ => hs_.1.1.1.2) (fun hn_ => (Kd.freshB (g := gb387) (o := .cells #[.slice A0_0 l0_0.length c0_0, .int .i64 a0_1, .int .i64 a0_2, .int .i64 a0_3, .bool a0_4] 26 (0, 0)) (mK BK387.out) k_ hn_)), Or.elim hk_ (fun hs_ => hs_.1.1.2) (fun hn_ => (Kd.freshB (g := gb388) (o := .cells #[.int .i64 a2_0, .int .i64 a2_1] 45 (0, 0)) (mK BK388.out) k_ hn_)), Or.elim hk_ (fun hs_ => hs_.1.2) (fun hn_ => (Kd.freshB (g := gb389) (o := .cells #[.slice none 0 0, .int .i64 0, .int .i64 0, .int .i64 0, .bool false] 26 (0, 0)) (mK BK389.out) k_ hn_)), Or.elim hk_ (fun hs_ => hs_.2) (fun hn_ => (Kd.freshB (g := gb400) (o := .cells #[.slice none 0 0, .int .i64 0, .int .i64 0, .int .i64 0, .bool false] 26 (0, 0)) (mK BK400.out) k_ hn_))⟩)) (below_size (by repeat (first | (with_reducible first | exact HB.out | apply below_alloc | apply pw_below_drewN | apply below_drew1 | refine below_set ?_ GE387.out | refine below_set ?_ GE388.out | refine below_set ?_ GE389.out | refine below_set ?_ GE400.out) | exact HB.out))))
     have n2_ := aA (bB BK387.out hb)
     have n3_ := aA (bB BK388.out hb)
     have n4_ := aA (bB BK389.out hb)
     have n5_ := aA (bB BK400.out hb)
     have n6_ := aA (below_step (by repeat (first | (with_reducible first | exact HB.out | apply below_alloc | apply pw_below_drewN | apply below_drew1 | refine below_set ?_ GE387.out | refine below_set ?_ GE388.out | refine below_set ?_ GE389.out | refine below_set ?_ GE400.out) | exact HB.out)) hb)
     clear HO0_0
     clear BK387
     clear BK388
     clear BK389
     clear BK400
     clear HB
     have HO0_0 := n0_
     have HO394 := n1_
     have BK387 := n2_
     have BK388 := n3_
     have BK389 := n4_
     have BK400 := n5_
     have HB := n6_
     clear n0_ n1_ n2_ n3_ n4_ n5_ n6_
     (try clear hb)
     (try clear hb2)
     (try clear hk)
     (try clear hi)
     (try clear ho0)
     refine hK.out _ _ ⟨(blk_cell BK387.out 0).trans rfl, (blk_cell BK387.out 1).trans rfl, (blk_cell BK387.out 2).trans rfl, (blk_cell BK387.out 3).trans rfl, (blk_cell BK387.out 4).trans rfl, (blk_cell BK388.out 0).trans rfl, (blk_cell BK388.out 1).trans rfl⟩ (fun hHeld => ?_)
     clear hK K
     refine norm_ (a' := ?_) ?_ ?_
     rotate_left
     ·show Act.put _ (some 27) _ = _
      simp only [Act.put, List.setIfInBounds_toArray, List.set_cons_zero, List.set_cons_succ, i64_w, i32_w]
      rfl
     refine pure_ (i := 17) (N := some 10) (v := ?_) (a' := ?_) (bA 23 1310719) rfl rfl (any_of HT_.out (by kernel_rfl)) (fun _ _ _ h => h) (Or.inl ⟨by rfl, ?_⟩) ?_ ?_
     rotate_left
     ·intro w'
      go_simp
      with_reducible rfl
     rotate_left
     ·exact mP
     refine pure_ (i := 18) (N := some 28) (v := ?_) (a' := ?_) (bA 23 1572863) rfl rfl (any_of HT_.out (by kernel_rfl)) (fun _ _ _ h => h) (Or.inl ⟨by rfl, ?_⟩) ?_ ?_
     rotate_left
     ·intro w'
      go_simp
      with_reducible rfl
     rotate_left
     ·exact mP
     refine pure_ (i := 19) (N := some 29) (v := ?_) (a' := ?_) (bA 23 2097151) rfl rfl (any_of HT_.out (by kernel_rfl)) (fun _ _ _ h => h) (Or.inl ⟨by rfl, ?_⟩) ?_ ?_
     rotate_left
     ·intro w'
      go_simp
      with_reducible rfl
     rotate_left
     ·exact mP
     exact norm_ (by simp only [putAll, Act.put, List.setIfInBounds_toArray, List.set_cons_zero, List.set_cons_succ]) (hCont (v393, gb400) _ ⟨hHeld, (by (with_reducible repeat (first | apply Kd.V_alloc | apply Kd.V_drewN | apply Kd.V_drew)); exact Kd.V_mono HO0_0.out (fun _ hk => ⟨hk.1.1.1.1, ⟨hk.1.1.1.2, ⟨hk.1.1.2, ⟨hk.1.2, hk.2⟩⟩⟩⟩)), (by (with_reducible repeat (first | apply Kd.V_alloc | apply Kd.V_drewN | apply Kd.V_drew)); exact HO394.out), (mK BK387.out), (mK BK388.out), (mK BK389.out), (mK BK400.out), GW400.out, GE400.out, NB387_400.out, NB400_387.out, NB388_400.out, NB400_388.out, NB389_400.out, NB400_389.out, (by repeat (first | (with_reducible first | exact HB.out | apply below_alloc | apply pw_below_drewN | apply below_drew1 | refine below_set ?_ GE387.out | refine below_set ?_ GE388.out | refine below_set ?_ GE389.out | refine below_set ?_ GE400.out) | exact HB.out))⟩)
   ·skip
    refine box_step ?hg (N := 8) ?hd (cs := #[.slice none 0 0, .int .i64 0, .int .i64 0, .int .i64 0, .bool false]) (t := 26) ?hr ?_; (case hd => rfl); (case hg => rfl); (case hr => first | (go_simp; done) | (go_simp; rfl))
    intro gb400 hg w36 hbox hb
    have n0_ := aA (Kd.V_below (Kd.V_elderB (by (with_reducible repeat (first | apply Kd.V_alloc | apply Kd.V_drewN | apply Kd.V_drew)); exact HO0_0.out) gb400 (Nat.le_of_eq hg.symm)) hb)
    have n1_ := aA (bB BK387.out hb)
    have n2_ := aA (bB BK388.out hb)
    have n3_ := aA (bB BK389.out hb)
    have n4_ := aA (below_step (mD3 GE387.out GE388.out GE389.out) hb)
    have n5_ := aA (hbox)
    have n6_ := aA ((bZ hg (mD3 GE387.out GE388.out GE389.out)))
    have n7_ := aA ((bZ hg (mD3 GE387.out GE388.out GE389.out)))
    have n8_ := aA ((bL hg BK387.out))
    have n9_ := aA ((bG hg BK387.out))
    have n10_ := aA ((bL hg BK388.out))
    have n11_ := aA ((bG hg BK388.out))
    have n12_ := aA ((bL hg BK389.out))
    have n13_ := aA ((bG hg BK389.out))
    clear HO0_0
    clear BK387
    clear BK388
    clear BK389
    clear HB
    have HO0_0 := n0_
    have BK387 := n1_
    have BK388 := n2_
    have BK389 := n3_
    have HB := n4_
    have BK400 := n5_
    have GW400 := n6_
    have GE400 := n7_
    have NB387_400 := n8_
    have NB400_387 := n9_
    have NB388_400 := n10_
    have NB400_388 := n11_
    have NB389_400 := n12_
    have NB400_389 := n13_
    clear n0_ n1_ n2_ n3_ n4_ n5_ n6_ n7_ n8_ n9_ n10_ n11_ n12_ n13_
    clear hb hbox hg
    refine hK.out _ _ ⟨(blk_cell BK387.out 0).trans rfl, (blk_cell BK387.out 1).trans rfl, (blk_cell BK387.out 2).trans rfl, (blk_cell BK387.out 3).trans rfl, (blk_cell BK387.out 4).trans rfl, (blk_cell BK388.out 0).trans rfl, (blk_cell BK388.out 1).trans rfl⟩ (fun hHeld => ?_)
    clear hK K
    refine norm_ (a' := ?_) ?_ ?_
    rotate_left
    ·show Act.put _ (some 8) _ = _
     simp only [Act.put, List.setIfInBounds_toArray, List.set_cons_zero, List.set_cons_succ, i64_w, i32_w]
     rfl
    refine one_ (i := 7) (N := some 18) (bA 23 1097727) rfl rfl (one_of HT_.out (by kernel_rfl)) (by decide) (fun K hK => ?_)
    refine goes_ Try.func46 (by kernel_rfl) rfl #[.agg #[.slice A0_0 l0_0.length c0_0], .int .i64 a0_1, .int .i64 a0_2] (by rfl) rfl rfl mS ?_
    with_reducible refine (foghornref04_place.calls _ _ l0_0 a0_1 a0_2 t390 _ ?side1 ?side2 A4.out).mono ?_
    (case side1 => exact mC ((Kd.V_reads' HO0_0.out).2.2))
    (case side2 => exact (Kd.V_reads' HO0_0.out).2.1)
    rintro e w37 ⟨rfl, hb⟩
    refine ⟨_, rfl, ?_⟩
    have n0_ := aA (Kd.V_below (by (with_reducible repeat (first | apply Kd.V_alloc | apply Kd.V_drewN | apply Kd.V_drew)); exact HO0_0.out) hb)
    have n1_ := aA (bB BK387.out hb)
    have n2_ := aA (bB BK388.out hb)
    have n3_ := aA (bB BK389.out hb)
    have n4_ := aA (bB BK400.out hb)
    have n5_ := aA (below_step (by repeat (first | (with_reducible first | exact HB.out | apply below_alloc | apply pw_below_drewN | apply below_drew1 | refine below_set ?_ GE387.out | refine below_set ?_ GE388.out | refine below_set ?_ GE389.out | refine below_set ?_ GE400.out) | exact HB.out)) hb)
    clear HO0_0
    clear BK387
    clear BK388
    clear BK389
    clear BK400
    clear HB
    have HO0_0 := n0_
    have BK387 := n1_
    have BK388 := n2_
    have BK389 := n3_
    have BK400 := n4_
    have HB := n5_
    clear n0_ n1_ n2_ n3_ n4_ n5_
    (try clear hb)
    (try clear hb2)
    (try clear hk)
    (try clear hi)
    refine hK.out _ _ ⟨(blk_cell BK387.out 0).trans rfl, (blk_cell BK387.out 1).trans rfl, (blk_cell BK387.out 2).trans rfl, (blk_cell BK387.out 3).trans rfl, (blk_cell BK387.out 4).trans rfl, (blk_cell BK388.out 0).trans rfl, (blk_cell BK388.out 1).trans rfl⟩ (fun hHeld => ?_)
    clear hK K
    refine norm_ (a' := ?_) ?_ ?_
    rotate_left
    ·show Act.put _ (some 18) _ = _
     simp only [Act.put, List.setIfInBounds_toArray, List.set_cons_zero, List.set_cons_succ, i64_w, i32_w]
     rfl
    refine one_ (i := 14) (N := some 25) (bA 23 1114111) rfl rfl (one_of HT_.out (by kernel_rfl)) (by decide) (fun K hK => ?_)
    refine goes_ Try.func42 (by kernel_rfl) rfl #[.int .i64 a0_1, .int .i64 (wrap64 (a0_2 + 1)), .string a1] (by rfl) rfl rfl mS ?_
    with_reducible refine (foghornref03_Seal.calls a0_1 (wrap64 (a0_2 + 1)) a1 t391 _ A5.out).mono ?_
    rintro e w38 ⟨rfl, hb⟩
    refine ⟨_, rfl, ?_⟩
    have n0_ := aA (Kd.V_below (by (with_reducible repeat (first | apply Kd.V_alloc | apply Kd.V_drewN | apply Kd.V_drew)); exact HO0_0.out) hb)
    have n1_ := aA (bB BK387.out hb)
    have n2_ := aA (bB BK388.out hb)
    have n3_ := aA (bB BK389.out hb)
    have n4_ := aA (bB BK400.out hb)
    have n5_ := aA (below_step (by repeat (first | (with_reducible first | exact HB.out | apply below_alloc | apply pw_below_drewN | apply below_drew1 | refine below_set ?_ GE387.out | refine below_set ?_ GE388.out | refine below_set ?_ GE389.out | refine below_set ?_ GE400.out) | exact HB.out)) hb)
    clear HO0_0
    clear BK387
    clear BK388
    clear BK389
    clear BK400
    clear HB
    have HO0_0 := n0_
    have BK387 := n1_
    have BK388 := n2_
    have BK389 := n3_
    have BK400 := n4_
    have HB := n5_
    clear n0_ n1_ n2_ n3_ n4_ n5_
    (try clear hb)
    (try clear hb2)
    (try clear hk)
    (try clear hi)
    refine hK.out _ _ ⟨(blk_cell BK387.out 0).trans rfl, (blk_cell BK387.out 1).trans rfl, (blk_cell BK387.out 2).trans rfl, (blk_cell BK387.out 3).trans rfl, (blk_cell BK387.out 4).trans rfl, (blk_cell BK388.out 0).trans rfl, (blk_cell BK388.out 1).trans rfl⟩ (fun hHeld => ?_)
    clear hK K
    refine norm_ (a' := ?_) ?_ ?_
    rotate_left
    ·show Act.put _ (some 25) _ = _
     simp only [Act.put, List.setIfInBounds_toArray, List.set_cons_zero, List.set_cons_succ, i64_w, i32_w]
     rfl
    refine one_ (i := 16) (N := some 27) (bA 23 1179647) rfl rfl (one_of HT_.out (by kernel_rfl)) (by decide) (fun K hK => ?_)
    refine goes_ Try.func53 (by kernel_rfl) rfl #[.agg #[.slice A0_0 l0_0.length c0_0, .int .i64 a0_1, .int .i64 a0_2, .int .i64 a0_3, .bool a0_4], .int .i64 t390, .string t391, .agg #[.int .i64 a2_0, .int .i64 a2_1]] (by rfl) rfl rfl mS ?_
    with_reducible refine (foghornref04_write.calls k (fun k_ => (((((P0_0_ k_ ∨ w.heap.size ≤ k_) ∧ k_ ≠ gb387) ∧ k_ ≠ gb388) ∧ k_ ≠ gb389) ∧ k_ ≠ gb400)) _ _ l0_0 a0_1 a0_2 a0_3 a0_4 t390 t391 a2_0 a2_1 t392 t395 t396 t397 t398 t399 _ ?side1 A6.out).mono ?_
    (case side1 => exact HO0_0.out)
    rintro e w39 ⟨v393, rfl, ho0, hb⟩
    refine ⟨_, rfl, ?_⟩
    have n0_ := aA (Kd.V_below (by (with_reducible repeat (first | apply Kd.V_alloc | apply Kd.V_drewN | apply Kd.V_drew)); exact HO0_0.out) hb)
    have n1_ := aA (Kd.V_lower (Kd.V_mono (ok' := fun k_ => (P0_0_ k_ ∨ w.heap.size ≤ k_) ∧ k_ ≠ gb387 ∧ k_ ≠ gb388 ∧ k_ ≠ gb389 ∧ k_ ≠ gb400) ho0 (fun k_ hk_ => ⟨Or.elim hk_ (fun hs_ => hs_.1.1.1.1) (fun hn_ => (.inr (Nat.le_trans (below_size (by repeat (first | (with_reducible first | exact HB.out | apply below_alloc | apply pw_below_drewN | apply below_drew1 | refine below_set ?_ GE387.out | refine below_set ?_ GE388.out | refine below_set ?_ GE389.out | refine below_set ?_ GE400.out) | exact HB.out))) hn_))), Or.elim hk_ (fun hs_ => hs_.1.1.1.2) (fun hn_ => (Kd.freshB (g := gb387) (o := .cells #[.slice A0_0 l0_0.length c0_0, .int .i64 a0_1, .int .i64 a0_2, .int .i64 a0_3, .bool a0_4] 26 (0, 0)) (mK BK387.out) k_ hn_)), Or.elim hk_ (fun hs_ => hs_.1.1.2) (fun hn_ => (Kd.freshB (g := gb388) (o := .cells #[.int .i64 a2_0, .int .i64 a2_1] 45 (0, 0)) (mK BK388.out) k_ hn_)), Or.elim hk_ (fun hs_ => hs_.1.2) (fun hn_ => (Kd.freshB (g := gb389) (o := .cells #[.slice none 0 0, .int .i64 0, .int .i64 0, .int .i64 0, .bool false] 26 (0, 0)) (mK BK389.out) k_ hn_)), Or.elim hk_ (fun hs_ => hs_.2) (fun hn_ => (Kd.freshB (g := gb400) (o := .cells #[.slice none 0 0, .int .i64 0, .int .i64 0, .int .i64 0, .bool false] 26 (0, 0)) (mK BK400.out) k_ hn_))⟩)) (below_size (by repeat (first | (with_reducible first | exact HB.out | apply below_alloc | apply pw_below_drewN | apply below_drew1 | refine below_set ?_ GE387.out | refine below_set ?_ GE388.out | refine below_set ?_ GE389.out | refine below_set ?_ GE400.out) | exact HB.out))))
    have n2_ := aA (bB BK387.out hb)
    have n3_ := aA (bB BK388.out hb)
    have n4_ := aA (bB BK389.out hb)
    have n5_ := aA (bB BK400.out hb)
    have n6_ := aA (below_step (by repeat (first | (with_reducible first | exact HB.out | apply below_alloc | apply pw_below_drewN | apply below_drew1 | refine below_set ?_ GE387.out | refine below_set ?_ GE388.out | refine below_set ?_ GE389.out | refine below_set ?_ GE400.out) | exact HB.out)) hb)
    clear HO0_0
    clear BK387
    clear BK388
    clear BK389
    clear BK400
    clear HB
    have HO0_0 := n0_
    have HO394 := n1_
    have BK387 := n2_
    have BK388 := n3_
    have BK389 := n4_
    have BK400 := n5_
    have HB := n6_
    clear n0_ n1_ n2_ n3_ n4_ n5_ n6_
    (try clear hb)
    (try clear hb2)
    (try clear hk)
    (try clear hi)
    (try clear ho0)
    refine hK.out _ _ ⟨(blk_cell BK387.out 0).trans rfl, (blk_cell BK387.out 1).trans rfl, (blk_cell BK387.out 2).trans rfl, (blk_cell BK387.out 3).trans rfl, (blk_cell BK387.out 4).trans rfl, (blk_cell BK388.out 0).trans rfl, (blk_cell BK388.out 1).trans rfl⟩ (fun hHeld => ?_)
    clear hK K
    refine norm_ (a' := ?_) ?_ ?_
    rotate_left
    ·show Act.put _ (some 27) _ = _
     simp only [Act.put, List.setIfInBounds_toArray, List.set_cons_zero, List.set_cons_succ, i64_w, i32_w]
     rfl
    refine pure_ (i := 17) (N := some 10) (v := ?_) (a' := ?_) (bA 23 1310719) rfl rfl (any_of HT_.out (by kernel_rfl)) (fun _ _ _ h => h) (Or.inl ⟨by rfl, ?_⟩) ?_ ?_
    rotate_left
    ·intro w'
     go_simp
     with_reducible rfl
    rotate_left
    ·exact mP
    refine pure_ (i := 18) (N := some 28) (v := ?_) (a' := ?_) (bA 23 1572863) rfl rfl (any_of HT_.out (by kernel_rfl)) (fun _ _ _ h => h) (Or.inl ⟨by rfl, ?_⟩) ?_ ?_
    rotate_left
    ·intro w'
     go_simp
     with_reducible rfl
    rotate_left
    ·exact mP
    refine pure_ (i := 19) (N := some 29) (v := ?_) (a' := ?_) (bA 23 2097151) rfl rfl (any_of HT_.out (by kernel_rfl)) (fun _ _ _ h => h) (Or.inl ⟨by rfl, ?_⟩) ?_ ?_
    rotate_left
    ·intro w'
     go_simp
     with_reducible rfl
    rotate_left
    ·exact mP
    exact norm_ (by simp only [putAll, Act.put, List.setIfInBounds_toArray, List.set_cons_zero, List.set_cons_succ]) (hCont (v393, gb400) _ ⟨hHeld, (by (with_reducible repeat (first | apply Kd.V_alloc | apply Kd.V_drewN | apply Kd.V_drew)); exact Kd.V_mono HO0_0.out (fun _ hk => ⟨hk.1.1.1.1, ⟨hk.1.1.1.2, ⟨hk.1.1.2, ⟨hk.1.2, hk.2⟩⟩⟩⟩)), (by (with_reducible repeat (first | apply Kd.V_alloc | apply Kd.V_drewN | apply Kd.V_drew)); exact HO394.out), (mK BK387.out), (mK BK388.out), (mK BK389.out), (mK BK400.out), GW400.out, GE400.out, NB387_400.out, NB400_387.out, NB388_400.out, NB400_388.out, NB389_400.out, NB400_389.out, (by repeat (first | (with_reducible first | exact HB.out | apply below_alloc | apply pw_below_drewN | apply below_drew1 | refine below_set ?_ GE387.out | refine below_set ?_ GE388.out | refine below_set ?_ GE389.out | refine below_set ?_ GE400.out) | exact HB.out))⟩)
  rintro ⟨v393, gb400⟩ w40 ⟨hS_, h0_, h1_, h2_, h3_, h4_, h5_, h6_, h7_, h8_, h9_, h10_, h11_, h12_, h13_, h14_⟩
  have n0_ : Aside0 (Kd.V Kd.string 9 w40 w.heap.size (fun k_ => (P0_0_ k_ ∨ w.heap.size ≤ k_) ∧ k_ ≠ gb387 ∧ k_ ≠ gb388 ∧ k_ ≠ gb389 ∧ k_ ≠ gb400) (.slice A0_0 l0_0.length c0_0) l0_0) := ⟨h0_⟩
  have n1_ : Aside0 (Kd.V Kd.string 9 w40 w.heap.size (fun k_ => (P0_0_ k_ ∨ w.heap.size ≤ k_) ∧ k_ ≠ gb387 ∧ k_ ≠ gb388 ∧ k_ ≠ gb389 ∧ k_ ≠ gb400) v393 t392) := ⟨h1_⟩
  have n2_ : Aside0 (w40.heap[gb387]? = some (.cells #[.slice A0_0 l0_0.length c0_0, .int .i64 a0_1, .int .i64 a0_2, .int .i64 a0_3, .bool a0_4] 26 (0, 0))) := ⟨h2_⟩
  have n3_ : Aside0 (w40.heap[gb388]? = some (.cells #[.int .i64 a2_0, .int .i64 a2_1] 45 (0, 0))) := ⟨h3_⟩
  have n4_ : Aside0 (w40.heap[gb389]? = some (.cells #[.slice none 0 0, .int .i64 0, .int .i64 0, .int .i64 0, .bool false] 26 (0, 0))) := ⟨h4_⟩
  have n5_ : Aside0 (w40.heap[gb400]? = some (.cells #[.slice none 0 0, .int .i64 0, .int .i64 0, .int .i64 0, .bool false] 26 (0, 0))) := ⟨h5_⟩
  have n6_ : Aside0 (w.heap.size ≤ gb400) := ⟨h6_⟩
  have n7_ : Aside0 (w.heap.size ≤ gb400) := ⟨h7_⟩
  have n8_ : Aside0 (gb387 ≠ gb400) := ⟨h8_⟩
  have n9_ : Aside0 (gb400 ≠ gb387) := ⟨h9_⟩
  have n10_ : Aside0 (gb388 ≠ gb400) := ⟨h10_⟩
  have n11_ : Aside0 (gb400 ≠ gb388) := ⟨h11_⟩
  have n12_ : Aside0 (gb389 ≠ gb400) := ⟨h12_⟩
  have n13_ : Aside0 (gb400 ≠ gb389) := ⟨h13_⟩
  have n14_ : Aside0 (Below w.heap.size w w40) := ⟨h14_⟩
  clear HO0_0
  clear BK387
  clear BK388
  clear BK389
  clear HB
  clear h0_ h1_ h2_ h3_ h4_ h5_ h6_ h7_ h8_ h9_ h10_ h11_ h12_ h13_ h14_
  have HO0_0 := n0_
  have HO394 := n1_
  have BK387 := n2_
  have BK388 := n3_
  have BK389 := n4_
  have BK400 := n5_
  have GW400 := n6_
  have GE400 := n7_
  have NB387_400 := n8_
  have NB400_387 := n9_
  have NB388_400 := n10_
  have NB400_388 := n11_
  have NB389_400 := n12_
  have NB400_389 := n13_
  have HB := n14_
  clear n0_ n1_ n2_ n3_ n4_ n5_ n6_ n7_ n8_ n9_ n10_ n11_ n12_ n13_ n14_
  have hHeld : w40.cell? ⟨gb387, 0, none⟩ = some (.slice A0_0 l0_0.length c0_0) ∧ w40.cell? ⟨gb387, 1, none⟩ = some (.int .i64 a0_1) ∧ w40.cell? ⟨gb387, 2, none⟩ = some (.int .i64 a0_2) ∧ w40.cell? ⟨gb387, 3, none⟩ = some (.int .i64 a0_3) ∧ w40.cell? ⟨gb387, 4, none⟩ = some (.bool a0_4) ∧ w40.cell? ⟨gb388, 0, none⟩ = some (.int .i64 a2_0) ∧ w40.cell? ⟨gb388, 1, none⟩ = some (.int .i64 a2_1) := hS_
  obtain ⟨Ao41, co41, eo41⟩ := Kd.V_slice HO394.out
  (first | subst eo41 | (injection eo41 with f1_ f2_ f3_; have f4_ := f1_.symm; have f5_ := f3_.symm; clear f1_ f2_ f3_; subst f4_; subst f5_))
  refine norm_ (a' := ?_) ?_ ?_
  rotate_left
  ·simp only [putAll, Act.put, List.setIfInBounds_toArray, List.set_cons_zero, List.set_cons_succ]
   rfl
  refine one_ (i := 21) (N := none) (bA 23 4194303) rfl rfl (one_of HT_.out (by kernel_rfl)) (by decide) (fun K hK => ?_)
  have hs42 : w40.cell? ⟨gb400, 0, none⟩ = some (.slice none 0 0) := (blk_cell BK400.out 0).trans rfl
  have hfs42 := blk_frozen BK400.out 0
  have hns42_0 := NB387_400.out
  have hns42_1 := NB388_400.out
  have hns42_2 := NB389_400.out
  have hms42_0 := NB400_387.out
  have hms42_1 := NB400_388.out
  have hms42_2 := NB400_389.out
  have hs43 : w40.cell? ⟨gb400, 1, none⟩ = some (.int .i64 0) := (blk_cell BK400.out 1).trans rfl
  have hfs43 := blk_frozen BK400.out 1
  have hns43_0 := NB387_400.out
  have hns43_1 := NB388_400.out
  have hns43_2 := NB389_400.out
  have hms43_0 := NB400_387.out
  have hms43_1 := NB400_388.out
  have hms43_2 := NB400_389.out
  have hs44 : w40.cell? ⟨gb400, 2, none⟩ = some (.int .i64 0) := (blk_cell BK400.out 2).trans rfl
  have hfs44 := blk_frozen BK400.out 2
  have hns44_0 := NB387_400.out
  have hns44_1 := NB388_400.out
  have hns44_2 := NB389_400.out
  have hms44_0 := NB400_387.out
  have hms44_1 := NB400_388.out
  have hms44_2 := NB400_389.out
  have hs45 : w40.cell? ⟨gb400, 3, none⟩ = some (.int .i64 0) := (blk_cell BK400.out 3).trans rfl
  have hfs45 := blk_frozen BK400.out 3
  have hns45_0 := NB387_400.out
  have hns45_1 := NB388_400.out
  have hns45_2 := NB389_400.out
  have hms45_0 := NB400_387.out
  have hms45_1 := NB400_388.out
  have hms45_2 := NB400_389.out
  have hs46 : w40.cell? ⟨gb400, 4, none⟩ = some (.bool false) := (blk_cell BK400.out 4).trans rfl
  have hfs46 := blk_frozen BK400.out 4
  have hns46_0 := NB387_400.out
  have hns46_1 := NB388_400.out
  have hns46_2 := NB389_400.out
  have hms46_0 := NB400_387.out
  have hms46_1 := NB400_388.out
  have hms46_2 := NB400_389.out
  refine skip_ (w1 := ?_) (by rfl) rfl ?_ ?_
  rotate_left
  ·go_simp
   rfl
  refine hK.out _ _ ⟨((cell_far (p := ⟨gb400, _, none⟩) NB387_400.out _).trans (((cell_far (p := ⟨gb400, _, none⟩) NB387_400.out _).trans (((cell_far (p := ⟨gb400, _, none⟩) NB387_400.out _).trans (((cell_far (p := ⟨gb400, _, none⟩) NB387_400.out _).trans (((cell_far (p := ⟨gb400, _, none⟩) NB387_400.out _).trans (hHeld.1)))))))))), ((cell_far (p := ⟨gb400, _, none⟩) NB387_400.out _).trans (((cell_far (p := ⟨gb400, _, none⟩) NB387_400.out _).trans (((cell_far (p := ⟨gb400, _, none⟩) NB387_400.out _).trans (((cell_far (p := ⟨gb400, _, none⟩) NB387_400.out _).trans (((cell_far (p := ⟨gb400, _, none⟩) NB387_400.out _).trans (hHeld.2.1)))))))))), ((cell_far (p := ⟨gb400, _, none⟩) NB387_400.out _).trans (((cell_far (p := ⟨gb400, _, none⟩) NB387_400.out _).trans (((cell_far (p := ⟨gb400, _, none⟩) NB387_400.out _).trans (((cell_far (p := ⟨gb400, _, none⟩) NB387_400.out _).trans (((cell_far (p := ⟨gb400, _, none⟩) NB387_400.out _).trans (hHeld.2.2.1)))))))))), ((cell_far (p := ⟨gb400, _, none⟩) NB387_400.out _).trans (((cell_far (p := ⟨gb400, _, none⟩) NB387_400.out _).trans (((cell_far (p := ⟨gb400, _, none⟩) NB387_400.out _).trans (((cell_far (p := ⟨gb400, _, none⟩) NB387_400.out _).trans (((cell_far (p := ⟨gb400, _, none⟩) NB387_400.out _).trans (hHeld.2.2.2.1)))))))))), ((cell_far (p := ⟨gb400, _, none⟩) NB387_400.out _).trans (((cell_far (p := ⟨gb400, _, none⟩) NB387_400.out _).trans (((cell_far (p := ⟨gb400, _, none⟩) NB387_400.out _).trans (((cell_far (p := ⟨gb400, _, none⟩) NB387_400.out _).trans (((cell_far (p := ⟨gb400, _, none⟩) NB387_400.out _).trans (hHeld.2.2.2.2.1)))))))))), ((cell_far (p := ⟨gb400, _, none⟩) NB388_400.out _).trans (((cell_far (p := ⟨gb400, _, none⟩) NB388_400.out _).trans (((cell_far (p := ⟨gb400, _, none⟩) NB388_400.out _).trans (((cell_far (p := ⟨gb400, _, none⟩) NB388_400.out _).trans (((cell_far (p := ⟨gb400, _, none⟩) NB388_400.out _).trans (hHeld.2.2.2.2.2.1)))))))))), ((cell_far (p := ⟨gb400, _, none⟩) NB388_400.out _).trans (((cell_far (p := ⟨gb400, _, none⟩) NB388_400.out _).trans (((cell_far (p := ⟨gb400, _, none⟩) NB388_400.out _).trans (((cell_far (p := ⟨gb400, _, none⟩) NB388_400.out _).trans (((cell_far (p := ⟨gb400, _, none⟩) NB388_400.out _).trans (hHeld.2.2.2.2.2.2))))))))))⟩ (fun hHeld => ?_)
  clear hK K
  refine pure_ (i := 22) (N := some 9) (v := ?_) (a' := ?_) (bA 23 8388607) rfl rfl (any_of HT_.out (by kernel_rfl)) (fun _ _ _ h => h) (Or.inl ⟨by rfl, ?_⟩) ?_ ?_
  rotate_left
  ·intro w'
   go_simp
   with_reducible rfl
  rotate_left
  ·exact mP
  refine done_ (done_of HT_.out (by kernel_rfl)) ?_
  have hnb47 := NB400_387.out
  have hnc47 := NB387_400.out
  have hnb48 := NB400_388.out
  have hnc48 := NB388_400.out
  have hnb49 := NB400_389.out
  have hnc49 := NB389_400.out
  obtain ⟨hcz50_0, hcz50_1, hcz50_2, hcz50_3, hcz50_4⟩ := bC5 BK400.out
  obtain ⟨hfz50_0, hfz50_1, hfz50_2, hfz50_3, hfz50_4⟩ := bF5 BK400.out
  have hnb51 := NB389_387.out
  have hnc51 := NB387_389.out
  have hnb52 := NB389_388.out
  have hnc52 := NB388_389.out
  obtain ⟨hcz53_0, hcz53_1, hcz53_2, hcz53_3, hcz53_4⟩ := bC5 BK389.out
  obtain ⟨hfz53_0, hfz53_1, hfz53_2, hfz53_3, hfz53_4⟩ := bF5 BK389.out
  try go_wp2
  refine bodyPost_ret (results_ct rfl _ _ gb389 26 #[.slice Ao41 t392.length co41, .int .i64 t395, .int .i64 t396, .int .i64 t397, .bool t398] (0, 0) _ rfl (by (with_reducible repeat (first | refine blk_drewN ?_ _ | refine blk_drew ?_ | refine blk_alloc ?_ _)); refine blk_put (cs := #[.slice Ao41 t392.length co41, .int .i64 t395, .int .i64 t396, .int .i64 t397, .bool false]) ?_ 4 _ rfl; (with_reducible repeat (first | refine blk_drewN ?_ _ | refine blk_drew ?_ | refine blk_alloc ?_ _)); refine blk_put (cs := #[.slice Ao41 t392.length co41, .int .i64 t395, .int .i64 t396, .int .i64 0, .bool false]) ?_ 3 _ rfl; (with_reducible repeat (first | refine blk_drewN ?_ _ | refine blk_drew ?_ | refine blk_alloc ?_ _)); refine blk_put (cs := #[.slice Ao41 t392.length co41, .int .i64 t395, .int .i64 0, .int .i64 0, .bool false]) ?_ 2 _ rfl; (with_reducible repeat (first | refine blk_drewN ?_ _ | refine blk_drew ?_ | refine blk_alloc ?_ _)); refine blk_put (cs := #[.slice Ao41 t392.length co41, .int .i64 0, .int .i64 0, .int .i64 0, .bool false]) ?_ 1 _ rfl; (with_reducible repeat (first | refine blk_drewN ?_ _ | refine blk_drew ?_ | refine blk_alloc ?_ _)); refine blk_put (cs := #[.slice none 0 0, .int .i64 0, .int .i64 0, .int .i64 0, .bool false]) ?_ 0 _ rfl; (with_reducible repeat (first | refine blk_drewN ?_ _ | refine blk_drew ?_ | refine blk_alloc ?_ _)); refine blk_far ?_ NB389_400.out _; (with_reducible repeat (first | refine blk_drewN ?_ _ | refine blk_drew ?_ | refine blk_alloc ?_ _)); refine blk_far ?_ NB389_400.out _; (with_reducible repeat (first | refine blk_drewN ?_ _ | refine blk_drew ?_ | refine blk_alloc ?_ _)); refine blk_far ?_ NB389_400.out _; (with_reducible repeat (first | refine blk_drewN ?_ _ | refine blk_drew ?_ | refine blk_alloc ?_ _)); refine blk_far ?_ NB389_400.out _; (with_reducible repeat (first | refine blk_drewN ?_ _ | refine blk_drew ?_ | refine blk_alloc ?_ _)); refine blk_far ?_ NB389_400.out _; (with_reducible repeat (first | refine blk_drewN ?_ _ | refine blk_drew ?_ | refine blk_alloc ?_ _)); exact BK389.out) Try.underlying26 rfl (by kernel_rfl)) rfl ?_
  exact ⟨_, by first | rfl | (simp [errW_none, errW_some] <;> rfl) | (simp [*, errW_none, errW_some] <;> rfl), by (with_reducible repeat (first | apply Kd.V_alloc | apply Kd.V_drewN | apply Kd.V_drew)); exact Kd.V_mono (Kd.V_far (p := ⟨gb389, 4, none⟩) (Kd.V_far (p := ⟨gb389, 3, none⟩) (Kd.V_far (p := ⟨gb389, 2, none⟩) (Kd.V_far (p := ⟨gb389, 1, none⟩) (Kd.V_far (p := ⟨gb389, 0, none⟩) (Kd.V_far (p := ⟨gb400, 4, none⟩) (Kd.V_far (p := ⟨gb400, 3, none⟩) (Kd.V_far (p := ⟨gb400, 2, none⟩) (Kd.V_far (p := ⟨gb400, 1, none⟩) (Kd.V_far (p := ⟨gb400, 0, none⟩) (Kd.V_mono (Kd.V_mono HO394.out (fun k_ hk => (⟨hk, hk.2.2.2.2⟩ : _ ∧ k_ ≠ gb400))) (fun k_ hk => (⟨hk, hk.1.2.2.2.1⟩ : _ ∧ k_ ≠ gb389))) (fun _ hk => hk.1.2) (.slice Ao41 t392.length co41)) (fun _ hk => hk.1.2) (.int .i64 t395)) (fun _ hk => hk.1.2) (.int .i64 t396)) (fun _ hk => hk.1.2) (.int .i64 t397)) (fun _ hk => hk.1.2) (.bool t398)) (fun _ hk => hk.2) (.slice Ao41 t392.length co41)) (fun _ hk => hk.2) (.int .i64 t395)) (fun _ hk => hk.2) (.int .i64 t396)) (fun _ hk => hk.2) (.int .i64 t397)) (fun _ hk => hk.2) (.bool t398)) (fun _ hk => hk.1.1.1), by repeat (first | (with_reducible first | exact HB.out | apply below_alloc | apply pw_below_drewN | apply below_drew1 | refine below_set ?_ GE387.out | refine below_set ?_ GE388.out | refine below_set ?_ GE389.out | refine below_set ?_ GE400.out) | exact HB.out)⟩
end Go.Proofs.YtopaddpclipnjaaQ.P
namespace Go.Proofs.YtopaddpclipnjaaQ.P
open Go.RowKit Go.Proofs.YtopaddpclipnjaaW.PrintWords Go.Proofs.YtopaddpclipnjaaW.PrintLast Go.Proofs.YtopaddpclipnjaaW.PrintMore
attribute [local go_sem] max2_int min2_int max_two min_two max_three min_three max_four min_four
def foghornref04_Faults.l0 : Nat → List (S45) → Int → Int → Option (Bool)
 | 0, _, _, _ => none
 | k + 1, x5, x6, x7 => if x7 < x6 then (if 0 ≤ x7 then (if x7 < (x5.length : Int) then ((foghornref04_Fault.f ((rd_T45 x5 x7).f0) ((rd_T45 x5 x7).f1)).bind fun t403 => (if t403 = true then (foghornref04_Faults.l0 k x5 x6 (wrap64 (x7 + 1))) else (some false))) else (none)) else (none)) else (some true)
def foghornref04_Faults.f (k : Nat) (l0 : List (S45)) : Option (Bool) := foghornref04_Faults.l0 k l0 (l0.length : Int) 0
theorem foghornref04_Faults.mono_l : ∀ k, (∀ y0 y1 y2, LeO (foghornref04_Faults.l0 k y0 y1 y2) (foghornref04_Faults.l0 (k + 1) y0 y1 y2))
 | 0 => fun _ _ _ r h => by simp [foghornref04_Faults.l0] at h
 | k + 1 => by
  have ih0 := foghornref04_Faults.mono_l k
  ·intro y0 y1 y2
   unfold foghornref04_Faults.l0
   repeat' first
   | (with_reducible exact ih0 _ _ _)
   | (with_reducible exact LeO.refl _)
   | (with_reducible exact LeO.none _)
   | (with_reducible refine LeO.ite ?_ ?_)
   | (with_reducible refine LeO.bind ?_ (fun _ => ?_))
   | exact ih0 _ _ _
   | exact LeO.none _
   | refine LeO.ite ?_ ?_
   | refine LeO.bind ?_ (fun _ => ?_)
theorem foghornref04_Faults.mono : ∀ a0 k, LeO (foghornref04_Faults.f k a0) (foghornref04_Faults.f (k + 1) a0) := by
 intro a0 k
 have ih0 := foghornref04_Faults.mono_l k
 unfold foghornref04_Faults.f
 repeat' first
   | (with_reducible exact ih0 _ _ _)
   | (with_reducible exact LeO.refl _)
   | (with_reducible exact LeO.none _)
   | (with_reducible refine LeO.ite ?_ ?_)
   | (with_reducible refine LeO.bind ?_ (fun _ => ?_))
   | exact ih0 _ _ _
   | exact LeO.none _
   | refine LeO.ite ?_ ?_
   | refine LeO.bind ?_ (fun _ => ?_)
set_option maxHeartbeats 8000000 in
set_option maxRecDepth 100000 in
theorem foghornref04_Faults.calls (k : Nat) (A0 : Option Addr) (c0 : Nat) (l0 : List (S45)) (r : Bool) (w : World) (hr0 : Kd.C k45 w A0 l0.length l0) (hc0 : l0.length ≤ c0) (h : foghornref04_Faults.f k l0 = some r) :
  Calls Try.prog 26 #[.slice A0 l0.length c0] w fun e w' => e = .returned (.bool r) ∧ Below w.heap.size w w' := by
 have hu45 := Try.underlying45
 have HR0 := aA hr0
 have HC0 := aA hc0
 clear hr0 hc0
 have HB := aA (Below.refl w.heap.size w)
 have H : (foghornref04_Faults.l0 k l0 (l0.length : Int) 0) = some r := h
 clear h
 have H' := aA H
 clear H
 go_enter Try.func26, Try.ntmps26
 go_wp2
 go_loopg [7] k (fun kq v7 w' => ∃ (x7_1 : Int), v7 = .int .i64 x7_1 ∧ Aside0 (foghornref04_Faults.l0 kq l0 (l0.length : Int) x7_1 = some r) ∧ Aside0 (kq ≤ k) ∧ Aside0 (Below w.heap.size w w'))
 case atStart => exact ⟨(0), (by first | rfl | (simp; done) | (simp [*]; done)), H', ⟨Nat.le_refl _⟩, ⟨by repeat (first | (with_reducible first | exact HB.out | apply below_alloc | apply pw_below_drewN | apply below_drew1) | exact HB.out)⟩⟩
 case round =>
  clear H'
  obtain ⟨x7_1, rfl, HA, HK1, HB⟩ := hrel
  cases gk with
  | zero => exact absurd HA.out (by simp [foghornref04_Faults.l0])
  | succ k1 =>
   have H := HA.out
   clear HA
   simp only [foghornref04_Faults.l0] at H
   by_cases c2 : x7_1 < (l0.length : Int)
   ·rw [if_pos c2] at H
    have c2b0 : decide (x7_1 < (l0.length : Int)) = true := decide_eq_true c2
    clear c2
    by_cases c3 : 0 ≤ x7_1
    ·rw [if_pos c3] at H
     have c3b0 : decide (0 ≤ x7_1) = true := decide_eq_true c3
     clear c3
     by_cases c4 : x7_1 < (l0.length : Int)
     ·rw [if_pos c4] at H
      have c4b0 : decide (x7_1 < (l0.length : Int)) = true := decide_eq_true c4
      clear c4
      replace H := Option.bind_eq_some_iff.mp H
      obtain ⟨t403, A50, H⟩ := H
      have A5 := aA A50
      clear A50
      by_cases c6 : t403 = true
      ·subst c6
       have H1 : (foghornref04_Faults.l0 k1 l0 (l0.length : Int) (wrap64 (x7_1 + 1))) = some r := by rw [if_pos rfl] at H; exact H
       clear H
       have H := H1
       clear H1
       have H' := aA H
       clear H
       have p401 : 0 ≤ (x7_1 : Int) := of_decide_eq_true (by first | (with_reducible assumption) | assumption)
       have q401 : x7_1 < (l0.length : Int) := of_decide_eq_true (by first | (with_reducible assumption) | assumption)
       obtain ⟨ad401, e401, hx401_0, hx401_1⟩ := at_T45 HR0.out x7_1 p401 q401
       cases e401
       replace hx401_0 := (HB.out.cell (World.block_lt_of_cell? w _ hx401_0)).trans hx401_0
       replace hx401_1 := (HB.out.cell (World.block_lt_of_cell? w _ hx401_1)).trans hx401_1
       replace p401 := eq_true p401
       replace q401 := eq_true q401
       go_wp2_with (first | ((with_reducible refine gate_dst (N := 4) rfl ?_); refine box_event ?hg (N := 4) ?hd (cs := #[.int .i64 0, .int .i64 0]) (t := 45) ?hr ?_; (case hd => rfl); (case hg => rfl); (case hr => first | (go_simp; done) | (go_simp; rfl)); intro gb402 hg w7 hbox hb; have n0_ := aA (below_step mB hb); have n1_ := aA (hbox); have n2_ := aA ((bZ hg mB)); have n3_ := aA ((bZ hg mB)); clear HB; have HB := n0_; have BK402 := n1_; have GW402 := n2_; have GE402 := n3_; clear n0_ n1_ n2_ n3_ hb hbox hg; obtain ⟨hcz8_0, hcz8_1⟩ := bC2 BK402.out; obtain ⟨hfz8_0, hfz8_1⟩ := bF2 BK402.out) | ((with_reducible refine gate_callee (f := 23) rfl ?_); refine goesL_ (some 12) rfl rfl Try.func23 (by kernel_rfl) rfl #[.agg #[.int .i64 ((rd_T45 l0 x7_1).f0), .int .i64 ((rd_T45 l0 x7_1).f1)]] rfl mS ?_; (with_reducible refine (foghornref04_Fault.calls ((rd_T45 l0 x7_1).f0) ((rd_T45 l0 x7_1).f1) true _ A5.out).mono ?_); rintro e w9 ⟨rfl, hb⟩; refine ⟨_, rfl, ?_⟩; have n0_ := aA (blk_below (g := gb402) (o := .cells #[.int .i64 ((rd_T45 l0 x7_1).f0), .int .i64 ((rd_T45 l0 x7_1).f1)] 45 (0, 0)) (by (with_reducible repeat (first | refine blk_drewN ?_ _ | refine blk_drew ?_ | refine blk_alloc ?_ _)); have h_ := BK402.out; exact pK 1 (pK 0 (h_))) hb); have n1_ := aA (below_step (mD1 GE402.out) hb); clear BK402 HB; have BK402 := n0_; have HB := n1_; clear n0_ n1_; (try clear hb); (try clear hb2); (try clear hk); (try clear hi)))
       go_roundg k1
       case measure => have := HK1.out; omega
       case rel => exact ⟨(wrap64 (x7_1 + 1)), (by first | rfl | (simp; done) | (simp [*]; done)), H', ⟨by have := HK1.out; omega⟩, ⟨by repeat (first | (with_reducible first | exact HB.out | apply below_alloc | apply pw_below_drewN | apply below_drew1 | refine below_set ?_ GE402.out) | exact HB.out)⟩⟩
      ·replace c6 := Bool.eq_false_iff.mpr c6
       subst c6
       have H1 : (some false) = some r := by rw [if_neg (show ¬ (false = true) by decide)] at H; exact H
       clear H
       have H := H1
       clear H1
       obtain rfl := Option.some.inj H
       have p401 : 0 ≤ (x7_1 : Int) := of_decide_eq_true (by first | (with_reducible assumption) | assumption)
       have q401 : x7_1 < (l0.length : Int) := of_decide_eq_true (by first | (with_reducible assumption) | assumption)
       obtain ⟨ad401, e401, hx401_0, hx401_1⟩ := at_T45 HR0.out x7_1 p401 q401
       cases e401
       replace hx401_0 := (HB.out.cell (World.block_lt_of_cell? w _ hx401_0)).trans hx401_0
       replace hx401_1 := (HB.out.cell (World.block_lt_of_cell? w _ hx401_1)).trans hx401_1
       replace p401 := eq_true p401
       replace q401 := eq_true q401
       go_wp2_with (first | ((with_reducible refine gate_dst (N := 4) rfl ?_); refine box_event ?hg (N := 4) ?hd (cs := #[.int .i64 0, .int .i64 0]) (t := 45) ?hr ?_; (case hd => rfl); (case hg => rfl); (case hr => first | (go_simp; done) | (go_simp; rfl)); intro gb402 hg w10 hbox hb; have n0_ := aA (below_step mB hb); have n1_ := aA (hbox); have n2_ := aA ((bZ hg mB)); have n3_ := aA ((bZ hg mB)); clear HB; have HB := n0_; have BK402 := n1_; have GW402 := n2_; have GE402 := n3_; clear n0_ n1_ n2_ n3_ hb hbox hg; obtain ⟨hcz11_0, hcz11_1⟩ := bC2 BK402.out; obtain ⟨hfz11_0, hfz11_1⟩ := bF2 BK402.out) | ((with_reducible refine gate_callee (f := 23) rfl ?_); refine goesL_ (some 12) rfl rfl Try.func23 (by kernel_rfl) rfl #[.agg #[.int .i64 ((rd_T45 l0 x7_1).f0), .int .i64 ((rd_T45 l0 x7_1).f1)]] rfl mS ?_; (with_reducible refine (foghornref04_Fault.calls ((rd_T45 l0 x7_1).f0) ((rd_T45 l0 x7_1).f1) false _ A5.out).mono ?_); rintro e w12 ⟨rfl, hb⟩; refine ⟨_, rfl, ?_⟩; have n0_ := aA (blk_below (g := gb402) (o := .cells #[.int .i64 ((rd_T45 l0 x7_1).f0), .int .i64 ((rd_T45 l0 x7_1).f1)] 45 (0, 0)) (by (with_reducible repeat (first | refine blk_drewN ?_ _ | refine blk_drew ?_ | refine blk_alloc ?_ _)); have h_ := BK402.out; exact pK 1 (pK 0 (h_))) hb); have n1_ := aA (below_step (mD1 GE402.out) hb); clear BK402 HB; have BK402 := n0_; have HB := n1_; clear n0_ n1_; (try clear hb); (try clear hb2); (try clear hk); (try clear hi)))
       go_ret
       exact ⟨by first | rfl | (simp [errW_none, errW_some] <;> rfl) | (simp [*, errW_none, errW_some] <;> rfl), by repeat (first | (with_reducible first | exact HB.out | apply below_alloc | apply pw_below_drewN | apply below_drew1 | refine below_set ?_ GE402.out) | exact HB.out)⟩
     ·rw [if_neg c4] at H
      exact absurd H (by simp)
    ·rw [if_neg c3] at H
     exact absurd H (by simp)
   ·rw [if_neg c2] at H
    have c2b0 : decide (x7_1 < (l0.length : Int)) = false := decide_eq_false c2
    clear c2
    obtain rfl := Option.some.inj H
    go_wp2
    go_ret
    exact ⟨by first | rfl | (simp [errW_none, errW_some] <;> rfl) | (simp [*, errW_none, errW_some] <;> rfl), by repeat (first | (with_reducible first | exact HB.out | apply below_alloc | apply pw_below_drewN | apply below_drew1) | exact HB.out)⟩
end Go.Proofs.YtopaddpclipnjaaQ.P
namespace Go.Proofs.YtopaddpclipnjaaQ.P
open Go.RowKit Go.Proofs.YtopaddpclipnjaaW.PrintWords Go.Proofs.YtopaddpclipnjaaW.PrintLast Go.Proofs.YtopaddpclipnjaaW.PrintMore
attribute [local go_sem] max2_int min2_int max_two min_two max_three min_three max_four min_four
def foghornref04_Payloads.l0 : Nat → List ByteArray → Int → Int → Option (Bool)
 | 0, _, _, _ => none
 | k + 1, x5, x6, x7 => if x7 < x6 then (if 0 ≤ x7 then (if x7 < (x5.length : Int) then (if ((rdOf ByteArray.empty x5 x7).size : Int) > 96 then (some false) else (foghornref04_Payloads.l0 k x5 x6 (wrap64 (x7 + 1)))) else (none)) else (none)) else (some true)
def foghornref04_Payloads.f (k : Nat) (l0 : List ByteArray) : Option (Bool) := foghornref04_Payloads.l0 k l0 (l0.length : Int) 0
theorem foghornref04_Payloads.mono_l : ∀ k, (∀ y0 y1 y2, LeO (foghornref04_Payloads.l0 k y0 y1 y2) (foghornref04_Payloads.l0 (k + 1) y0 y1 y2))
 | 0 => fun _ _ _ r h => by simp [foghornref04_Payloads.l0] at h
 | k + 1 => by
  have ih0 := foghornref04_Payloads.mono_l k
  ·intro y0 y1 y2
   unfold foghornref04_Payloads.l0
   repeat' first
   | (with_reducible exact ih0 _ _ _)
   | (with_reducible exact LeO.refl _)
   | (with_reducible exact LeO.none _)
   | (with_reducible refine LeO.ite ?_ ?_)
   | (with_reducible refine LeO.bind ?_ (fun _ => ?_))
   | exact ih0 _ _ _
   | exact LeO.none _
   | refine LeO.ite ?_ ?_
   | refine LeO.bind ?_ (fun _ => ?_)
theorem foghornref04_Payloads.mono : ∀ a0 k, LeO (foghornref04_Payloads.f k a0) (foghornref04_Payloads.f (k + 1) a0) := by
 intro a0 k
 have ih0 := foghornref04_Payloads.mono_l k
 unfold foghornref04_Payloads.f
 repeat' first
   | (with_reducible exact ih0 _ _ _)
   | (with_reducible exact LeO.refl _)
   | (with_reducible exact LeO.none _)
   | (with_reducible refine LeO.ite ?_ ?_)
   | (with_reducible refine LeO.bind ?_ (fun _ => ?_))
   | exact ih0 _ _ _
   | exact LeO.none _
   | refine LeO.ite ?_ ?_
   | refine LeO.bind ?_ (fun _ => ?_)
set_option maxHeartbeats 8000000 in
set_option maxRecDepth 100000 in
theorem foghornref04_Payloads.calls (k : Nat) (A0 : Option Addr) (c0 : Nat) (l0 : List ByteArray) (r : Bool) (w : World) (hr0 : Kd.C Kd.string w A0 l0.length l0) (hc0 : l0.length ≤ c0) (h : foghornref04_Payloads.f k l0 = some r) :
  Calls Try.prog 27 #[.slice A0 l0.length c0] w fun e w' => e = .returned (.bool r) ∧ Drawn0 w w' := by
 have HR0 := aA hr0
 have HC0 := aA hc0
 clear hr0 hc0
 have H : (foghornref04_Payloads.l0 k l0 (l0.length : Int) 0) = some r := h
 clear h
 have H' := aA H
 clear H
 go_enter Try.func27, Try.ntmps27
 go_wp2
 go_loopg [7] k (fun kq v7 w' => ∃ (x7_1 : Int), v7 = .int .i64 x7_1 ∧ Aside0 (foghornref04_Payloads.l0 kq l0 (l0.length : Int) x7_1 = some r) ∧ Aside0 (kq ≤ k) ∧ Drawn0 w w')
 case atStart => exact ⟨(0), (by first | rfl | (simp; done) | (simp [*]; done)), H', ⟨Nat.le_refl _⟩, by repeat (first | exact Drawn0.refl _ | apply Drawn0.step)⟩
 case round =>
  clear H'
  obtain ⟨x7_1, rfl, HA, HK1, ⟨m1, rfl⟩⟩ := hrel
  cases gk with
  | zero => exact absurd HA.out (by simp [foghornref04_Payloads.l0])
  | succ k1 =>
   have H := HA.out
   clear HA
   simp only [foghornref04_Payloads.l0] at H
   by_cases c2 : x7_1 < (l0.length : Int)
   ·rw [if_pos c2] at H
    have c2b0 : decide (x7_1 < (l0.length : Int)) = true := decide_eq_true c2
    clear c2
    by_cases c3 : 0 ≤ x7_1
    ·rw [if_pos c3] at H
     have c3b0 : decide (0 ≤ x7_1) = true := decide_eq_true c3
     clear c3
     by_cases c4 : x7_1 < (l0.length : Int)
     ·rw [if_pos c4] at H
      have c4b0 : decide (x7_1 < (l0.length : Int)) = true := decide_eq_true c4
      clear c4
      by_cases c5 : ((rdOf ByteArray.empty l0 x7_1).size : Int) > 96
      ·rw [if_pos c5] at H
       have c5b0 : decide (96 < ((rdOf ByteArray.empty l0 x7_1).size : Int)) = true := decide_eq_true c5
       have c5b1 : decide (96 < (rdOf ByteArray.empty l0 x7_1).size) = true := decide_eq_true (by omega)
       clear c5
       obtain rfl := Option.some.inj H
       have p404 : 0 ≤ (x7_1 : Int) := of_decide_eq_true (by first | (with_reducible assumption) | assumption)
       have q404 : x7_1 < (l0.length : Int) := of_decide_eq_true (by first | (with_reducible assumption) | assumption)
       obtain ⟨ad404, e404, hx404_0⟩ := Kd.at_string HR0.out x7_1 p404 q404
       cases e404
       replace p404 := eq_true p404
       replace q404 := eq_true q404
       go_wp2
       go_ret
       exact ⟨by first | rfl | (simp; done) | (simp [*]; done), by repeat (first | exact Drawn0.refl _ | apply Drawn0.step)⟩
      ·rw [if_neg c5] at H
       have c5b0 : decide (96 < ((rdOf ByteArray.empty l0 x7_1).size : Int)) = false := decide_eq_false c5
       have c5b1 : decide (96 < (rdOf ByteArray.empty l0 x7_1).size) = false := decide_eq_false (by omega)
       clear c5
       have H' := aA H
       clear H
       have p404 : 0 ≤ (x7_1 : Int) := of_decide_eq_true (by first | (with_reducible assumption) | assumption)
       have q404 : x7_1 < (l0.length : Int) := of_decide_eq_true (by first | (with_reducible assumption) | assumption)
       obtain ⟨ad404, e404, hx404_0⟩ := Kd.at_string HR0.out x7_1 p404 q404
       cases e404
       replace p404 := eq_true p404
       replace q404 := eq_true q404
       go_wp2
       go_roundg k1
       case measure => have := HK1.out; omega
       case rel => exact ⟨(wrap64 (x7_1 + 1)), (by first | rfl | (simp; done) | (simp [*]; done)), H', ⟨by have := HK1.out; omega⟩, by repeat (first | exact Drawn0.refl _ | apply Drawn0.step)⟩
     ·rw [if_neg c4] at H
      exact absurd H (by simp)
    ·rw [if_neg c3] at H
     exact absurd H (by simp)
   ·rw [if_neg c2] at H
    have c2b0 : decide (x7_1 < (l0.length : Int)) = false := decide_eq_false c2
    clear c2
    obtain rfl := Option.some.inj H
    go_wp2
    go_ret
    exact ⟨by first | rfl | (simp; done) | (simp [*]; done), by repeat (first | exact Drawn0.refl _ | apply Drawn0.step)⟩
end Go.Proofs.YtopaddpclipnjaaQ.P
namespace Go.Proofs.YtopaddpclipnjaaQ.P
open Go.RowKit Go.Proofs.YtopaddpclipnjaaW.PrintWords Go.Proofs.YtopaddpclipnjaaW.PrintLast Go.Proofs.YtopaddpclipnjaaW.PrintMore
attribute [local go_sem] max2_int min2_int max_two min_two max_three min_three max_four min_four
def foghornref04_Next.f (l0_0 : List ByteArray) (a0_1 : Int) (a0_2 : Int) (a0_3 : Int) (a0_4 : Bool) : Option (Int) := if (Int.tmod (wrap64 (a0_3 + 1)) 2) = (Int.tmod a0_1 2) then (some (wrap64 (a0_3 + 2))) else (some (wrap64 (a0_3 + 1)))
set_option maxHeartbeats 8000000 in
set_option maxRecDepth 100000 in
theorem foghornref04_Next.calls (A0_0 : Option Addr) (c0_0 : Nat) (l0_0 : List ByteArray) (a0_1 : Int) (a0_2 : Int) (a0_3 : Int) (a0_4 : Bool) (r : Int) (w : World) (hr0_0 : Kd.C Kd.string w A0_0 l0_0.length l0_0) (hc0_0 : l0_0.length ≤ c0_0) (h : foghornref04_Next.f l0_0 a0_1 a0_2 a0_3 a0_4 = some r) :
  Calls Try.prog 28 #[.agg #[.slice A0_0 l0_0.length c0_0, .int .i64 a0_1, .int .i64 a0_2, .int .i64 a0_3, .bool a0_4]] w fun e w' => e = .returned (.int .i64 r) ∧ Below w.heap.size w w' := by
 have hu26 := Try.underlying26
 have HR0_0 := aA hr0_0
 have HC0_0 := aA hc0_0
 clear hr0_0 hc0_0
 have HB := aA (Below.refl w.heap.size w)
 have H : (if (Int.tmod (wrap64 (a0_3 + 1)) 2) = (Int.tmod a0_1 2) then (some (wrap64 (a0_3 + 2))) else (some (wrap64 (a0_3 + 1)))) = some r := h
 clear h
 by_cases c2 : (Int.tmod (wrap64 (a0_3 + 1)) 2) = (Int.tmod a0_1 2)
 ·rw [if_pos c2] at H
  have c2b0 : ((Int.tmod (wrap64 (a0_3 + 1)) 2) == (Int.tmod a0_1 2)) = true := beq_iff_eq.mpr c2
  have c2b1 : ((Int.tmod (wrap64 (a0_3 + 1)) 2) != (Int.tmod a0_1 2)) = false := bne_eq_false_iff_eq.mpr c2
  clear c2
  obtain rfl := Option.some.inj H
  go_enter Try.func28, Try.ntmps28
  go_wp2_with (first | ((with_reducible refine gate_dst (N := 1) rfl ?_); refine box_event ?hg (N := 1) ?hd (cs := #[.slice A0_0 l0_0.length c0_0, .int .i64 a0_1, .int .i64 a0_2, .int .i64 a0_3, .bool a0_4]) (t := 26) ?hr ?_; (case hd => rfl); (case hg => rfl); (case hr => first | (go_simp; done) | (go_simp; rfl)); intro gb405 hg w3 hbox hb; have n0_ := aA (below_step mB hb); have n1_ := aA (hbox); have n2_ := aA ((bZ hg mB)); have n3_ := aA ((bZ hg mB)); clear HB; have HB := n0_; have BK405 := n1_; have GW405 := n2_; have GE405 := n3_; clear n0_ n1_ n2_ n3_ hb hbox hg; obtain ⟨hcz4_0, hcz4_1, hcz4_2, hcz4_3, hcz4_4⟩ := bC5 BK405.out; obtain ⟨hfz4_0, hfz4_1, hfz4_2, hfz4_3, hfz4_4⟩ := bF5 BK405.out))
  go_ret
  exact ⟨by first | rfl | (simp [errW_none, errW_some] <;> rfl) | (simp [*, errW_none, errW_some] <;> rfl), by repeat (first | (with_reducible first | exact HB.out | apply below_alloc | apply pw_below_drewN | apply below_drew1 | refine below_set ?_ GE405.out) | exact HB.out)⟩
 ·rw [if_neg c2] at H
  have c2b0 : ((Int.tmod (wrap64 (a0_3 + 1)) 2) == (Int.tmod a0_1 2)) = false := beq_eq_false_iff_ne.mpr c2
  have c2b1 : ((Int.tmod (wrap64 (a0_3 + 1)) 2) != (Int.tmod a0_1 2)) = true := bne_iff_ne.mpr c2
  obtain rfl := Option.some.inj H
  go_enter Try.func28, Try.ntmps28
  go_wp2_with (first | ((with_reducible refine gate_dst (N := 1) rfl ?_); refine box_event ?hg (N := 1) ?hd (cs := #[.slice A0_0 l0_0.length c0_0, .int .i64 a0_1, .int .i64 a0_2, .int .i64 a0_3, .bool a0_4]) (t := 26) ?hr ?_; (case hd => rfl); (case hg => rfl); (case hr => first | (go_simp; done) | (go_simp; rfl)); intro gb405 hg w5 hbox hb; have n0_ := aA (below_step mB hb); have n1_ := aA (hbox); have n2_ := aA ((bZ hg mB)); have n3_ := aA ((bZ hg mB)); clear HB; have HB := n0_; have BK405 := n1_; have GW405 := n2_; have GE405 := n3_; clear n0_ n1_ n2_ n3_ hb hbox hg; obtain ⟨hcz6_0, hcz6_1, hcz6_2, hcz6_3, hcz6_4⟩ := bC5 BK405.out; obtain ⟨hfz6_0, hfz6_1, hfz6_2, hfz6_3, hfz6_4⟩ := bF5 BK405.out))
  go_ret
  exact ⟨by first | rfl | (simp [errW_none, errW_some] <;> rfl) | (simp [*, errW_none, errW_some] <;> rfl), by repeat (first | (with_reducible first | exact HB.out | apply below_alloc | apply pw_below_drewN | apply below_drew1 | refine below_set ?_ GE405.out) | exact HB.out)⟩
end Go.Proofs.YtopaddpclipnjaaQ.P
namespace Go.Proofs.YtopaddpclipnjaaQ.P
open Go.RowKit Go.Proofs.YtopaddpclipnjaaW.PrintWords Go.Proofs.YtopaddpclipnjaaW.PrintLast Go.Proofs.YtopaddpclipnjaaW.PrintMore
attribute [local go_sem] max2_int min2_int max_two min_two max_three min_three max_four min_four
mutual
def foghornref04_Turn.l0 : Nat → List ByteArray → List (S45) → Int → Int → List ByteArray → Int → Int → Int → Bool → Option (List ByteArray × Int × Int × Int × Bool × Int)
 | 0, _, _, _, _, _, _, _, _, _ => none
 | k + 1, x1, x2, x8, x9, x407000, x407001, x407002, x407003, x407004 => if x9 ≤ (x1.length : Int) then (if x9 < (x2.length : Int) then (if 0 ≤ x9 then (foghornref04_Turn.j1 k x1 x2 x8 x9 x407000 x407001 x407002 x407003 x407004 ((rd_T45 x2 x9).f0) ((rd_T45 x2 x9).f1)) else (none)) else (foghornref04_Turn.j1 k x1 x2 x8 x9 x407000 x407001 x407002 x407003 x407004 0 0)) else (some (x407000, x8, (x1.length : Int), x407003, x407004, 0))
def foghornref04_Turn.j1 : Nat → List ByteArray → List (S45) → Int → Int → List ByteArray → Int → Int → Int → Bool → Int → Int → Option (List ByteArray × Int × Int × Int × Bool × Int)
 | 0, _, _, _, _, _, _, _, _, _, _, _ => none
 | k + 1, x1, x2, x8, x9, x407000, x407001, x407002, x407003, x407004, x410000, x410001 => (foghornref03_Seal.f x8 0 (⟨#[]⟩ : ByteArray)).bind fun t411 => (if x9 < (x1.length : Int) then ((foghornref04_place.f x407000 x8 x9).bind fun t412 => (if 0 ≤ x9 then ((foghornref03_Seal.f x8 (wrap64 (x9 + 1)) (rdOf ByteArray.empty x1 x9)).bind fun t414 => ((foghornref04_write.f k x407000 x407001 x407002 x407003 x407004 t412 t414 x410000 x410001).bind fun bt415 => (if bt415.2.2.2.2.2 = 0 then (foghornref04_Turn.l0 k x1 x2 x8 (wrap64 (x9 + 1)) bt415.1 bt415.2.1 bt415.2.2.1 bt415.2.2.2.1 bt415.2.2.2.2.1) else (some (bt415.1, bt415.2.1, bt415.2.2.1, bt415.2.2.2.1, bt415.2.2.2.2.1, bt415.2.2.2.2.2))))) else (none))) else ((foghornref04_write.f k x407000 x407001 x407002 x407003 x407004 (Int.tmod x8 2) t411 x410000 x410001).bind fun bt424 => (if bt424.2.2.2.2.2 = 0 then (foghornref04_Turn.l0 k x1 x2 x8 (wrap64 (x9 + 1)) bt424.1 bt424.2.1 bt424.2.2.1 bt424.2.2.2.1 bt424.2.2.2.2.1) else (some (bt424.1, bt424.2.1, bt424.2.2.1, bt424.2.2.2.1, bt424.2.2.2.2.1, bt424.2.2.2.2.2)))))
end
def foghornref04_Turn.f (k : Nat) (l0_0 : List ByteArray) (a0_1 : Int) (a0_2 : Int) (a0_3 : Int) (a0_4 : Bool) (l1 : List ByteArray) (l2 : List (S45)) : Option (List ByteArray × Int × Int × Int × Bool × Int) := (foghornref04_Next.f l0_0 a0_1 a0_2 a0_3 a0_4).bind fun t408 => (foghornref04_Turn.l0 k l1 l2 t408 0 l0_0 a0_1 a0_2 t408 a0_4)
theorem foghornref04_Turn.mono_l : ∀ k, (∀ y0 y1 y2 y3 y4 y5 y6 y7 y8, LeO (foghornref04_Turn.l0 k y0 y1 y2 y3 y4 y5 y6 y7 y8) (foghornref04_Turn.l0 (k + 1) y0 y1 y2 y3 y4 y5 y6 y7 y8)) ∧ (∀ y0 y1 y2 y3 y4 y5 y6 y7 y8 y9 y10, LeO (foghornref04_Turn.j1 k y0 y1 y2 y3 y4 y5 y6 y7 y8 y9 y10) (foghornref04_Turn.j1 (k + 1) y0 y1 y2 y3 y4 y5 y6 y7 y8 y9 y10))
 | 0 => ⟨fun _ _ _ _ _ _ _ _ _ r h => by simp [foghornref04_Turn.l0] at h, fun _ _ _ _ _ _ _ _ _ _ _ r h => by simp [foghornref04_Turn.j1] at h⟩
 | k + 1 => by
  obtain ⟨ih0, ih1⟩ := foghornref04_Turn.mono_l k
  refine ⟨?_, ?_⟩
  ·intro y0 y1 y2 y3 y4 y5 y6 y7 y8
   unfold foghornref04_Turn.l0
   repeat' first
   | (with_reducible exact ih0 _ _ _ _ _ _ _ _ _)
   | (with_reducible exact ih1 _ _ _ _ _ _ _ _ _ _ _)
   | (with_reducible exact foghornref04_write.mono _ _ _ _ _ _ _ _ _ _)
   | (with_reducible exact LeO.refl _)
   | (with_reducible exact LeO.none _)
   | (with_reducible refine LeO.ite ?_ ?_)
   | (with_reducible refine LeO.bind ?_ (fun _ => ?_))
   | exact ih0 _ _ _ _ _ _ _ _ _
   | exact ih1 _ _ _ _ _ _ _ _ _ _ _
   | exact foghornref04_write.mono _ _ _ _ _ _ _ _ _ _
   | exact LeO.none _
   | refine LeO.ite ?_ ?_
   | refine LeO.bind ?_ (fun _ => ?_)
  ·intro y0 y1 y2 y3 y4 y5 y6 y7 y8 y9 y10
   unfold foghornref04_Turn.j1
   repeat' first
   | (with_reducible exact ih0 _ _ _ _ _ _ _ _ _)
   | (with_reducible exact ih1 _ _ _ _ _ _ _ _ _ _ _)
   | (with_reducible exact foghornref04_write.mono _ _ _ _ _ _ _ _ _ _)
   | (with_reducible exact LeO.refl _)
   | (with_reducible exact LeO.none _)
   | (with_reducible refine LeO.ite ?_ ?_)
   | (with_reducible refine LeO.bind ?_ (fun _ => ?_))
   | exact ih0 _ _ _ _ _ _ _ _ _
   | exact ih1 _ _ _ _ _ _ _ _ _ _ _
   | exact foghornref04_write.mono _ _ _ _ _ _ _ _ _ _
   | exact LeO.none _
   | refine LeO.ite ?_ ?_
   | refine LeO.bind ?_ (fun _ => ?_)
theorem foghornref04_Turn.mono : ∀ a0 a1 a2 a3 a4 a5 a6 k, LeO (foghornref04_Turn.f k a0 a1 a2 a3 a4 a5 a6) (foghornref04_Turn.f (k + 1) a0 a1 a2 a3 a4 a5 a6) := by
 intro a0 a1 a2 a3 a4 a5 a6 k
 obtain ⟨ih0, ih1⟩ := foghornref04_Turn.mono_l k
 unfold foghornref04_Turn.f
 repeat' first
   | (with_reducible exact ih0 _ _ _ _ _ _ _ _ _)
   | (with_reducible exact ih1 _ _ _ _ _ _ _ _ _ _ _)
   | (with_reducible exact foghornref04_write.mono _ _ _ _ _ _ _ _ _ _)
   | (with_reducible exact LeO.refl _)
   | (with_reducible exact LeO.none _)
   | (with_reducible refine LeO.ite ?_ ?_)
   | (with_reducible refine LeO.bind ?_ (fun _ => ?_))
   | exact ih0 _ _ _ _ _ _ _ _ _
   | exact ih1 _ _ _ _ _ _ _ _ _ _ _
   | exact foghornref04_write.mono _ _ _ _ _ _ _ _ _ _
   | exact LeO.none _
   | refine LeO.ite ?_ ?_
   | refine LeO.bind ?_ (fun _ => ?_)
set_option maxHeartbeats 8000000 in
set_option maxRecDepth 100000 in
theorem foghornref04_Turn.calls (k : Nat) (P0_0_ : Nat → Prop) (A0_0 : Option Addr) (c0_0 : Nat) (l0_0 : List ByteArray) (a0_1 : Int) (a0_2 : Int) (a0_3 : Int) (a0_4 : Bool) (A1 : Option Addr) (c1 : Nat) (l1 : List ByteArray) (A2 : Option Addr) (c2 : Nat) (l2 : List (S45)) (r1 : List ByteArray) (r2 : Int) (r3 : Int) (r4 : Int) (r5 : Bool) (r6 : Int) (w : World) (hs0_0 : Kd.V Kd.string 9 w w.heap.size (fun k_ => P0_0_ k_) (.slice A0_0 l0_0.length c0_0) l0_0) (hr1 : Kd.C Kd.string w A1 l1.length l1) (hc1 : l1.length ≤ c1) (hr2 : Kd.C k45 w A2 l2.length l2) (hc2 : l2.length ≤ c2) (h : foghornref04_Turn.f k l0_0 a0_1 a0_2 a0_3 a0_4 l1 l2 = some (r1, r2, r3, r4, r5, r6)) :
  Calls Try.prog 29 #[.agg #[.slice A0_0 l0_0.length c0_0, .int .i64 a0_1, .int .i64 a0_2, .int .i64 a0_3, .bool a0_4], .slice A1 l1.length c1, .slice A2 l2.length c2] w fun e w' => ∃ v0_ : Value, e = .returned (.tuple #[.agg #[v0_, .int .i64 r2, .int .i64 r3, .int .i64 r4, .bool r5], .int .i64 r6]) ∧ Kd.V Kd.string 9 w' w.heap.size (fun k_ => (P0_0_ k_ ∨ w.heap.size ≤ k_)) v0_ r1 ∧ Below w.heap.size w w' := by
 have hu26 := Try.underlying26
 have hu45 := Try.underlying45
 have hu24 := Try.underlying24
 have HO0_0 := aA (show Kd.V Kd.string 9 w w.heap.size (fun k_ => (P0_0_ k_ ∨ w.heap.size ≤ k_)) (.slice A0_0 l0_0.length c0_0) l0_0 from Kd.V_mono hs0_0 (fun k_ hk => .inl hk))
 have HR1 := aA hr1
 have HC1 := aA hc1
 clear hr1 hc1
 have HR2 := aA hr2
 have HC2 := aA hc2
 clear hr2 hc2
 have HB := aA (Below.refl w.heap.size w)
 have H : ((foghornref04_Next.f l0_0 a0_1 a0_2 a0_3 a0_4).bind fun t408 => (foghornref04_Turn.l0 k l1 l2 t408 0 l0_0 a0_1 a0_2 t408 a0_4)) = some (r1, r2, r3, r4, r5, r6) := h
 clear h
 replace H := Option.bind_eq_some_iff.mp H
 obtain ⟨t408, A40, H⟩ := H
 replace H : (foghornref04_Turn.l0 k l1 l2 t408 0 l0_0 a0_1 a0_2 t408 a0_4) = some (r1, r2, r3, r4, r5, r6) := H
 have A4 := aA A40
 clear A40
 have H' := aA H
 clear H
 go_enter Try.func29, Try.ntmps29
 go_wp2_with (first | ((with_reducible refine gate_dst (N := 3) rfl ?_); refine box_event ?hg (N := 3) ?hd (cs := #[.slice A0_0 l0_0.length c0_0, .int .i64 a0_1, .int .i64 a0_2, .int .i64 a0_3, .bool a0_4]) (t := 26) ?hr ?_; (case hd => rfl); (case hg => rfl); (case hr => first | (go_simp; done) | (go_simp; rfl)); intro gb406 hg w5 hbox hb; have n0_ := aA (Kd.V_below (Kd.V_elderB (by (with_reducible repeat (first | apply Kd.V_alloc | apply Kd.V_drewN | apply Kd.V_drew)); exact HO0_0.out) gb406 (Nat.le_of_eq hg.symm)) hb); have n1_ := aA (below_step mB hb); have n2_ := aA (hbox); have n3_ := aA ((bZ hg mB)); have n4_ := aA ((bZ hg mB)); clear HO0_0 HB; have HO0_0 := n0_; have HB := n1_; have BK406 := n2_; have GW406 := n3_; have GE406 := n4_; clear n0_ n1_ n2_ n3_ n4_ hb hbox hg) | ((with_reducible refine gate_dst (N := 6) rfl ?_); refine box_event ?hg (N := 6) ?hd (cs := #[.slice none 0 0, .int .i64 0, .int .i64 0, .int .i64 0, .bool false]) (t := 26) ?hr ?_; (case hd => rfl); (case hg => rfl); (case hr => first | (go_simp; done) | (go_simp; rfl)); intro gb407 hg w6 hbox hb; have n0_ := aA (Kd.V_below (Kd.V_elderB (by (with_reducible repeat (first | apply Kd.V_alloc | apply Kd.V_drewN | apply Kd.V_drew)); exact HO0_0.out) gb407 (Nat.le_of_eq hg.symm)) hb); have n1_ := aA (bB BK406.out hb); have n2_ := aA (below_step (mD1 GE406.out) hb); have n3_ := aA (hbox); have n4_ := aA ((bZ hg (mD1 GE406.out))); have n5_ := aA ((bZ hg (mD1 GE406.out))); have n6_ := aA ((bL hg BK406.out)); have n7_ := aA ((bG hg BK406.out)); clear HO0_0 BK406 HB; have HO0_0 := n0_; have BK406 := n1_; have HB := n2_; have BK407 := n3_; have GW407 := n4_; have GE407 := n5_; have NB406_407 := n6_; have NB407_406 := n7_; clear n0_ n1_ n2_ n3_ n4_ n5_ n6_ n7_ hb hbox hg; have hnb7 := NB406_407.out; have hnc7 := NB407_406.out; obtain ⟨hcz8_0, hcz8_1, hcz8_2, hcz8_3, hcz8_4⟩ := bC5 BK406.out; obtain ⟨hfz8_0, hfz8_1, hfz8_2, hfz8_3, hfz8_4⟩ := bF5 BK406.out) | ((with_reducible refine gate_callee (f := 28) rfl ?_); refine goesL_ (some 16) rfl rfl Try.func28 (by kernel_rfl) rfl #[.agg #[.slice A0_0 l0_0.length c0_0, .int .i64 a0_1, .int .i64 a0_2, .int .i64 a0_3, .bool a0_4]] rfl mS ?_; (with_reducible refine (foghornref04_Next.calls _ _ l0_0 a0_1 a0_2 a0_3 a0_4 t408 _ ?side1 ?side2 A4.out).mono ?_); (case side1 => exact mC ((Kd.V_reads' HO0_0.out).2.2)); (case side2 => exact (Kd.V_reads' HO0_0.out).2.1); rintro e w9 ⟨rfl, hb⟩; refine ⟨_, rfl, ?_⟩; have n0_ := aA (Kd.V_below (by (with_reducible repeat (first | apply Kd.V_alloc | apply Kd.V_drewN | apply Kd.V_drew)); exact HO0_0.out) hb); have n1_ := aA (bB BK406.out hb); have n2_ := aA (bB BK407.out hb); have n3_ := aA (below_step (mD2 GE406.out GE407.out) hb); clear HO0_0 BK406 BK407 HB; have HO0_0 := n0_; have BK406 := n1_; have BK407 := n2_; have HB := n3_; clear n0_ n1_ n2_ n3_; (try clear hb); (try clear hb2); (try clear hk); (try clear hi); obtain ⟨hcz10_0, hcz10_1, hcz10_2, hcz10_3, hcz10_4⟩ := bC5 BK406.out; obtain ⟨hfz10_0, hfz10_1, hfz10_2, hfz10_3, hfz10_4⟩ := bF5 BK406.out))
 go_loopg [9] k (fun kq v9 w' => ∃ (x9_1 : Int) (x407000_1 : List ByteArray) (x407001_1 : Int) (x407002_1 : Int) (x407003_1 : Int) (x407004_1 : Bool) (x408001_1 : Int) (x408002_1 : Int) (x408003_1 : Int) (x408004_1 : Bool) (u407000 : Value), v9 = .int .i64 x9_1 ∧ Aside0 (foghornref04_Turn.l0 kq l1 l2 t408 x9_1 x407000_1 x407001_1 x407002_1 x407003_1 x407004_1 = some (r1, r2, r3, r4, r5, r6)) ∧ Aside0 (kq ≤ k) ∧ Aside0 (Kd.V Kd.string 9 w' w.heap.size (fun k_ => (P0_0_ k_ ∨ w.heap.size ≤ k_) ∧ k_ ≠ gb406 ∧ k_ ≠ gb407) u407000 x407000_1) ∧ Aside0 (w'.heap[gb406]? = some (.cells #[u407000, .int .i64 x407001_1, .int .i64 x407002_1, .int .i64 x407003_1, .bool x407004_1] 26 (0, 0))) ∧ Aside0 (w'.heap[gb407]? = some (.cells #[(.slice none 0 0), .int .i64 x408001_1, .int .i64 x408002_1, .int .i64 x408003_1, .bool x408004_1] 26 (0, 0))) ∧ Aside0 (Below w.heap.size w w'))
 case atStart => exact ⟨(0), (l0_0), (a0_1), (a0_2), (t408), (a0_4), (0), (0), (0), (false), (.slice A0_0 l0_0.length c0_0), (by first | rfl | (simp; done) | (simp [*]; done)), H', ⟨Nat.le_refl _⟩, ⟨by (with_reducible repeat (first | apply Kd.V_alloc | apply Kd.V_drewN | apply Kd.V_drew)); exact Kd.V_mono (Kd.V_far (p := ⟨gb406, 3, none⟩) (Kd.V_mono HO0_0.out (fun k_ hk => (⟨hk, hk.1.2⟩ : _ ∧ k_ ≠ gb406))) (fun _ hk => hk.2) (.int .i64 t408)) (fun _ hk => ⟨hk.1.1.1, ⟨hk.1.1.2, hk.1.2⟩⟩)⟩, ⟨by (with_reducible repeat (first | refine blk_drewN ?_ _ | refine blk_drew ?_ | refine blk_alloc ?_ _)); refine blk_put (cs := #[.slice A0_0 l0_0.length c0_0, .int .i64 a0_1, .int .i64 a0_2, .int .i64 a0_3, .bool a0_4]) ?_ 3 _ rfl; (with_reducible repeat (first | refine blk_drewN ?_ _ | refine blk_drew ?_ | refine blk_alloc ?_ _)); exact BK406.out⟩, ⟨by (with_reducible repeat (first | refine blk_drewN ?_ _ | refine blk_drew ?_ | refine blk_alloc ?_ _)); refine blk_far ?_ NB407_406.out _; (with_reducible repeat (first | refine blk_drewN ?_ _ | refine blk_drew ?_ | refine blk_alloc ?_ _)); exact BK407.out⟩, ⟨by repeat (first | (with_reducible first | exact HB.out | apply below_alloc | apply pw_below_drewN | apply below_drew1 | refine below_set ?_ GE406.out | refine below_set ?_ GE407.out) | exact HB.out)⟩⟩
 case round =>
  clear H'
  try clear c1
  try clear c2
  try clear p2
  try clear c7
  try clear hcz10_0 hcz10_1 hcz10_2 hcz10_3 hcz10_4
  try clear hcz8_0 hcz8_1 hcz8_2 hcz8_3 hcz8_4
  try clear hfz10_0 hfz10_1 hfz10_2 hfz10_3 hfz10_4
  try clear hfz8_0 hfz8_1 hfz8_2 hfz8_3 hfz8_4
  obtain ⟨x9_1, x407000_1, x407001_1, x407002_1, x407003_1, x407004_1, x408001_1, x408002_1, x408003_1, x408004_1, u407000, rfl, HA, HK1, HO_407000, BK406, BK407, HB⟩ := hrel
  cases gk with
  | zero => exact absurd HA.out (by simp [foghornref04_Turn.l0])
  | succ k1 =>
   have H := HA.out
   clear HA
   simp only [foghornref04_Turn.l0] at H
   by_cases c11 : x9_1 ≤ (l1.length : Int)
   ·rw [if_pos c11] at H
    have c11b0 : decide (x9_1 ≤ (l1.length : Int)) = true := decide_eq_true c11
    clear c11
    have HC12 := aA H
    clear H
    go_upto_if 29 with (first | ((with_reducible refine gate_dst (N := 10) rfl ?_); refine box_event ?hg (N := 10) ?hd (cs := #[.int .i64 0, .int .i64 0]) (t := 45) ?hr ?_; (case hd => rfl); (case hg => rfl); (case hr => first | (go_simp; done) | (go_simp; rfl)); intro gb409 hg w13 hbox hb; have n0_ := aA (Kd.V_below (Kd.V_elderB (by (with_reducible repeat (first | apply Kd.V_alloc | apply Kd.V_drewN | apply Kd.V_drew)); exact HO_407000.out) gb409 (Nat.le_of_eq hg.symm)) hb); have n1_ := aA (bB BK406.out hb); have n2_ := aA (bB BK407.out hb); have n3_ := aA (below_step (mD2 GE406.out GE407.out) hb); have n4_ := aA (hbox); have n5_ := aA ((bZ hg (mD2 GE406.out GE407.out))); have n6_ := aA ((bZ hg (mD2 GE406.out GE407.out))); have n7_ := aA ((bL hg BK406.out)); have n8_ := aA ((bG hg BK406.out)); have n9_ := aA ((bL hg BK407.out)); have n10_ := aA ((bG hg BK407.out)); clear HO_407000 BK406 BK407 HB; have HO_407000 := n0_; have BK406 := n1_; have BK407 := n2_; have HB := n3_; have BK409 := n4_; have GW409 := n5_; have GE409 := n6_; have NB406_409 := n7_; have NB409_406 := n8_; have NB407_409 := n9_; have NB409_407 := n10_; clear n0_ n1_ n2_ n3_ n4_ n5_ n6_ n7_ n8_ n9_ n10_ hb hbox hg; have hnb14 := NB409_406.out; have hnc14 := NB406_409.out; have hnb15 := NB409_407.out; have hnc15 := NB407_409.out; obtain ⟨hcz16_0, hcz16_1⟩ := bC2 BK409.out; obtain ⟨hfz16_0, hfz16_1⟩ := bF2 BK409.out))
    (try simp only [Act.put, List.setIfInBounds_toArray, List.set_cons_zero, List.set_cons_succ])
    go_cut [] (fun wc => ∃ (kq : Nat) (x410000_11 : Int) (x410001_11 : Int), Aside0 (foghornref04_Turn.j1 kq l1 l2 t408 x9_1 x407000_1 x407001_1 x407002_1 x407003_1 x407004_1 x410000_11 x410001_11 = some (r1, r2, r3, r4, r5, r6)) ∧ Aside0 (kq ≤ k1) ∧ Aside0 (Kd.V Kd.string 9 wc w.heap.size (fun k_ => (P0_0_ k_ ∨ w.heap.size ≤ k_) ∧ k_ ≠ gb406 ∧ k_ ≠ gb407 ∧ k_ ≠ gb409) u407000 x407000_1) ∧ Aside0 (wc.heap[gb406]? = some (.cells #[u407000, .int .i64 x407001_1, .int .i64 x407002_1, .int .i64 x407003_1, .bool x407004_1] 26 (0, 0))) ∧ Aside0 (wc.heap[gb407]? = some (.cells #[(.slice none 0 0), .int .i64 x408001_1, .int .i64 x408002_1, .int .i64 x408003_1, .bool x408004_1] 26 (0, 0))) ∧ Aside0 (wc.heap[gb409]? = some (.cells #[.int .i64 x410000_11, .int .i64 x410001_11] 45 (0, 0))) ∧ Aside0 (Below w.heap.size w wc))
    case first =>
     have H := HC12.out
     clear HC12
     by_cases c17 : x9_1 < (l2.length : Int)
     ·rw [if_pos c17] at H
      have c17b0 : decide (x9_1 < (l2.length : Int)) = true := decide_eq_true c17
      clear c17
      (first | rw [c17b0] | (simp only [i64_w, i32_w]; rw [c17b0]) | skip)
      by_cases c18 : 0 ≤ x9_1
      ·rw [if_pos c18] at H
       have c18b0 : decide (0 ≤ x9_1) = true := decide_eq_true c18
       clear c18
       have H' := aA H
       clear H
       have p410 : 0 ≤ (x9_1 : Int) := of_decide_eq_true (by first | (with_reducible assumption) | assumption)
       have q410 : x9_1 < (l2.length : Int) := of_decide_eq_true (by first | (with_reducible assumption) | assumption)
       obtain ⟨ad410, e410, hx410_0, hx410_1⟩ := at_T45 HR2.out x9_1 p410 q410
       cases e410
       have hn410_0 : ad410.block ≠ gb409 := Nat.ne_of_lt (Nat.lt_of_lt_of_le (by have := World.block_lt_of_cell? _ _ hx410_0; first | rwa [add_block] at this | exact this) GW409.out)
       have hn410_1 : ad410.block ≠ gb409 := Nat.ne_of_lt (Nat.lt_of_lt_of_le (by have := World.block_lt_of_cell? _ _ hx410_0; first | rwa [add_block] at this | exact this) GW409.out)
       replace hx410_0 := (HB.out.cell (World.block_lt_of_cell? w _ hx410_0)).trans hx410_0
       replace hx410_1 := (HB.out.cell (World.block_lt_of_cell? w _ hx410_1)).trans hx410_1
       replace hx410_0 := (cell_far (p := ⟨gb409, 0, none⟩) (by first | (rw [add_block]; exact hn410_0) | (show (Addr.add _ _).block ≠ _; rw [add_block]; exact hn410_0) | exact hn410_0) (.int .i64 0)).trans hx410_0
       replace hx410_1 := (cell_far (p := ⟨gb409, 0, none⟩) (by first | (rw [add_block]; exact hn410_0) | (show (Addr.add _ _).block ≠ _; rw [add_block]; exact hn410_0) | exact hn410_0) (.int .i64 0)).trans hx410_1
       replace hx410_0 := (cell_far (p := ⟨gb409, 1, none⟩) (by first | (rw [add_block]; exact hn410_1) | (show (Addr.add _ _).block ≠ _; rw [add_block]; exact hn410_1) | exact hn410_1) (.int .i64 0)).trans hx410_0
       replace hx410_1 := (cell_far (p := ⟨gb409, 1, none⟩) (by first | (rw [add_block]; exact hn410_1) | (show (Addr.add _ _).block ≠ _; rw [add_block]; exact hn410_1) | exact hn410_1) (.int .i64 0)).trans hx410_1
       clear hn410_0
       clear hn410_1
       replace p410 := eq_true p410
       replace q410 := eq_true q410
       have hnb19 := NB409_406.out
       have hnc19 := NB406_409.out
       have hnb20 := NB409_407.out
       have hnc20 := NB407_409.out
       obtain ⟨hcz21_0, hcz21_1⟩ := bC2 BK409.out
       obtain ⟨hfz21_0, hfz21_1⟩ := bF2 BK409.out
       go_wp2
       go_meet
       case rel => exact ⟨_, ((rd_T45 l2 x9_1).f0), ((rd_T45 l2 x9_1).f1), H', ⟨by have := HK1.out; first | omega | exact Nat.le_refl _⟩, ⟨by (with_reducible repeat (first | apply Kd.V_alloc | apply Kd.V_drewN | apply Kd.V_drew)); exact Kd.V_mono (Kd.V_far (p := ⟨gb409, 1, none⟩) (Kd.V_far (p := ⟨gb409, 0, none⟩) (Kd.V_far (p := ⟨gb409, 1, none⟩) (Kd.V_far (p := ⟨gb409, 0, none⟩) (Kd.V_mono HO_407000.out (fun k_ hk => (⟨hk, hk.2⟩ : _ ∧ k_ ≠ gb409))) (fun _ hk => hk.2) (.int .i64 0)) (fun _ hk => hk.2) (.int .i64 0)) (fun _ hk => hk.2) (.int .i64 ((rd_T45 l2 x9_1).f0))) (fun _ hk => hk.2) (.int .i64 ((rd_T45 l2 x9_1).f1))) (fun _ hk => ⟨hk.1.1.1, ⟨hk.1.1.2.1, ⟨hk.1.1.2.2, hk.1.2⟩⟩⟩)⟩, ⟨by (with_reducible repeat (first | refine blk_drewN ?_ _ | refine blk_drew ?_ | refine blk_alloc ?_ _)); refine blk_far ?_ NB406_409.out _; (with_reducible repeat (first | refine blk_drewN ?_ _ | refine blk_drew ?_ | refine blk_alloc ?_ _)); refine blk_far ?_ NB406_409.out _; (with_reducible repeat (first | refine blk_drewN ?_ _ | refine blk_drew ?_ | refine blk_alloc ?_ _)); refine blk_far ?_ NB406_409.out _; (with_reducible repeat (first | refine blk_drewN ?_ _ | refine blk_drew ?_ | refine blk_alloc ?_ _)); refine blk_far ?_ NB406_409.out _; (with_reducible repeat (first | refine blk_drewN ?_ _ | refine blk_drew ?_ | refine blk_alloc ?_ _)); exact BK406.out⟩, ⟨by (with_reducible repeat (first | refine blk_drewN ?_ _ | refine blk_drew ?_ | refine blk_alloc ?_ _)); refine blk_far ?_ NB407_409.out _; (with_reducible repeat (first | refine blk_drewN ?_ _ | refine blk_drew ?_ | refine blk_alloc ?_ _)); refine blk_far ?_ NB407_409.out _; (with_reducible repeat (first | refine blk_drewN ?_ _ | refine blk_drew ?_ | refine blk_alloc ?_ _)); refine blk_far ?_ NB407_409.out _; (with_reducible repeat (first | refine blk_drewN ?_ _ | refine blk_drew ?_ | refine blk_alloc ?_ _)); refine blk_far ?_ NB407_409.out _; (with_reducible repeat (first | refine blk_drewN ?_ _ | refine blk_drew ?_ | refine blk_alloc ?_ _)); exact BK407.out⟩, ⟨by (with_reducible repeat (first | refine blk_drewN ?_ _ | refine blk_drew ?_ | refine blk_alloc ?_ _)); refine blk_put (cs := #[.int .i64 ((rd_T45 l2 x9_1).f0), .int .i64 0]) ?_ 1 _ rfl; (with_reducible repeat (first | refine blk_drewN ?_ _ | refine blk_drew ?_ | refine blk_alloc ?_ _)); refine blk_put (cs := #[.int .i64 0, .int .i64 0]) ?_ 0 _ rfl; (with_reducible repeat (first | refine blk_drewN ?_ _ | refine blk_drew ?_ | refine blk_alloc ?_ _)); refine blk_put (cs := #[.int .i64 0, .int .i64 0]) ?_ 1 _ rfl; (with_reducible repeat (first | refine blk_drewN ?_ _ | refine blk_drew ?_ | refine blk_alloc ?_ _)); refine blk_put (cs := #[.int .i64 0, .int .i64 0]) ?_ 0 _ rfl; (with_reducible repeat (first | refine blk_drewN ?_ _ | refine blk_drew ?_ | refine blk_alloc ?_ _)); exact BK409.out⟩, ⟨by repeat (first | (with_reducible first | exact HB.out | apply below_alloc | apply pw_below_drewN | apply below_drew1 | refine below_set ?_ GE406.out | refine below_set ?_ GE407.out | refine below_set ?_ GE409.out) | exact HB.out)⟩⟩
      ·rw [if_neg c18] at H
       exact absurd H (by simp)
     ·rw [if_neg c17] at H
      have c17b0 : decide (x9_1 < (l2.length : Int)) = false := decide_eq_false c17
      clear c17
      (first | rw [c17b0] | (simp only [i64_w, i32_w]; rw [c17b0]) | skip)
      have H' := aA H
      clear H
      go_wp2
      go_meet
      case rel => exact ⟨_, (0), (0), H', ⟨by have := HK1.out; first | omega | exact Nat.le_refl _⟩, ⟨by (with_reducible repeat (first | apply Kd.V_alloc | apply Kd.V_drewN | apply Kd.V_drew)); exact Kd.V_mono (Kd.V_far (p := ⟨gb409, 1, none⟩) (Kd.V_far (p := ⟨gb409, 0, none⟩) (Kd.V_mono HO_407000.out (fun k_ hk => (⟨hk, hk.2⟩ : _ ∧ k_ ≠ gb409))) (fun _ hk => hk.2) (.int .i64 0)) (fun _ hk => hk.2) (.int .i64 0)) (fun _ hk => ⟨hk.1.1.1, ⟨hk.1.1.2.1, ⟨hk.1.1.2.2, hk.1.2⟩⟩⟩)⟩, ⟨by (with_reducible repeat (first | refine blk_drewN ?_ _ | refine blk_drew ?_ | refine blk_alloc ?_ _)); refine blk_far ?_ NB406_409.out _; (with_reducible repeat (first | refine blk_drewN ?_ _ | refine blk_drew ?_ | refine blk_alloc ?_ _)); refine blk_far ?_ NB406_409.out _; (with_reducible repeat (first | refine blk_drewN ?_ _ | refine blk_drew ?_ | refine blk_alloc ?_ _)); exact BK406.out⟩, ⟨by (with_reducible repeat (first | refine blk_drewN ?_ _ | refine blk_drew ?_ | refine blk_alloc ?_ _)); refine blk_far ?_ NB407_409.out _; (with_reducible repeat (first | refine blk_drewN ?_ _ | refine blk_drew ?_ | refine blk_alloc ?_ _)); refine blk_far ?_ NB407_409.out _; (with_reducible repeat (first | refine blk_drewN ?_ _ | refine blk_drew ?_ | refine blk_alloc ?_ _)); exact BK407.out⟩, ⟨by (with_reducible repeat (first | refine blk_drewN ?_ _ | refine blk_drew ?_ | refine blk_alloc ?_ _)); refine blk_put (cs := #[.int .i64 0, .int .i64 0]) ?_ 1 _ rfl; (with_reducible repeat (first | refine blk_drewN ?_ _ | refine blk_drew ?_ | refine blk_alloc ?_ _)); refine blk_put (cs := #[.int .i64 0, .int .i64 0]) ?_ 0 _ rfl; (with_reducible repeat (first | refine blk_drewN ?_ _ | refine blk_drew ?_ | refine blk_alloc ?_ _)); exact BK409.out⟩, ⟨by repeat (first | (with_reducible first | exact HB.out | apply below_alloc | apply pw_below_drewN | apply below_drew1 | refine below_set ?_ GE406.out | refine below_set ?_ GE407.out | refine below_set ?_ GE409.out) | exact HB.out)⟩⟩
    case rest =>
     clear HC12
     try clear c1
     try clear c2
     try clear p2
     try clear p4
     try clear q4
     try clear hx4
     try clear c7
     try clear c11
     try clear c11b0
     try clear c14
     try clear c15
     try clear c17
     try clear c17b0
     try clear c18
     try clear c18b0
     try clear c19
     try clear c20
     try clear hcz10_0 hcz10_1 hcz10_2 hcz10_3 hcz10_4
     try clear hcz16_0 hcz16_1
     try clear hcz21_0 hcz21_1
     try clear hcz8_0 hcz8_1 hcz8_2 hcz8_3 hcz8_4
     try clear hfz10_0 hfz10_1 hfz10_2 hfz10_3 hfz10_4
     try clear hfz16_0 hfz16_1
     try clear hfz21_0 hfz21_1
     try clear hfz8_0 hfz8_1 hfz8_2 hfz8_3 hfz8_4
     try clear hx410_0
     try clear hx410_1
     try clear p2
     try clear p410
     try clear q410
     obtain ⟨kq, x410000_11, x410001_11, HA, HJ11, HO_407000, BK406, BK407, BK409, HB⟩ := hcut
     cases kq with
     | zero => exact absurd HA.out (by simp [foghornref04_Turn.j1])
     | succ kj11 =>
      have H := HA.out
      clear HA
      simp only [foghornref04_Turn.j1] at H
      replace H := Option.bind_eq_some_iff.mp H
      obtain ⟨t411, A220, H⟩ := H
      replace H : (if x9_1 < (l1.length : Int) then ((foghornref04_place.f x407000_1 t408 x9_1).bind fun t412 => (if 0 ≤ x9_1 then ((foghornref03_Seal.f t408 (wrap64 (x9_1 + 1)) (rdOf ByteArray.empty l1 x9_1)).bind fun t414 => ((foghornref04_write.f kj11 x407000_1 x407001_1 x407002_1 x407003_1 x407004_1 t412 t414 x410000_11 x410001_11).bind fun bt415 => (if bt415.2.2.2.2.2 = 0 then (foghornref04_Turn.l0 kj11 l1 l2 t408 (wrap64 (x9_1 + 1)) bt415.1 bt415.2.1 bt415.2.2.1 bt415.2.2.2.1 bt415.2.2.2.2.1) else (some (bt415.1, bt415.2.1, bt415.2.2.1, bt415.2.2.2.1, bt415.2.2.2.2.1, bt415.2.2.2.2.2))))) else (none))) else ((foghornref04_write.f kj11 x407000_1 x407001_1 x407002_1 x407003_1 x407004_1 (Int.tmod t408 2) t411 x410000_11 x410001_11).bind fun bt424 => (if bt424.2.2.2.2.2 = 0 then (foghornref04_Turn.l0 kj11 l1 l2 t408 (wrap64 (x9_1 + 1)) bt424.1 bt424.2.1 bt424.2.2.1 bt424.2.2.2.1 bt424.2.2.2.2.1) else (some (bt424.1, bt424.2.1, bt424.2.2.1, bt424.2.2.2.1, bt424.2.2.2.2.1, bt424.2.2.2.2.2))))) = some (r1, r2, r3, r4, r5, r6) := H
      have A22 := aA A220
      clear A220
      by_cases c23 : x9_1 < (l1.length : Int)
      ·rw [if_pos c23] at H
       have c23b0 : decide (x9_1 < (l1.length : Int)) = true := decide_eq_true c23
       clear c23
       replace H := Option.bind_eq_some_iff.mp H
       obtain ⟨t412, A240, H⟩ := H
       replace H : (if 0 ≤ x9_1 then ((foghornref03_Seal.f t408 (wrap64 (x9_1 + 1)) (rdOf ByteArray.empty l1 x9_1)).bind fun t414 => ((foghornref04_write.f kj11 x407000_1 x407001_1 x407002_1 x407003_1 x407004_1 t412 t414 x410000_11 x410001_11).bind fun bt415 => (if bt415.2.2.2.2.2 = 0 then (foghornref04_Turn.l0 kj11 l1 l2 t408 (wrap64 (x9_1 + 1)) bt415.1 bt415.2.1 bt415.2.2.1 bt415.2.2.2.1 bt415.2.2.2.2.1) else (some (bt415.1, bt415.2.1, bt415.2.2.1, bt415.2.2.2.1, bt415.2.2.2.2.1, bt415.2.2.2.2.2))))) else (none)) = some (r1, r2, r3, r4, r5, r6) := H
       have A24 := aA A240
       clear A240
       by_cases c25 : 0 ≤ x9_1
       ·rw [if_pos c25] at H
        have c25b0 : decide (0 ≤ x9_1) = true := decide_eq_true c25
        clear c25
        replace H := Option.bind_eq_some_iff.mp H
        obtain ⟨t414, A260, H⟩ := H
        replace H : ((foghornref04_write.f kj11 x407000_1 x407001_1 x407002_1 x407003_1 x407004_1 t412 t414 x410000_11 x410001_11).bind fun bt415 => (if bt415.2.2.2.2.2 = 0 then (foghornref04_Turn.l0 kj11 l1 l2 t408 (wrap64 (x9_1 + 1)) bt415.1 bt415.2.1 bt415.2.2.1 bt415.2.2.2.1 bt415.2.2.2.2.1) else (some (bt415.1, bt415.2.1, bt415.2.2.1, bt415.2.2.2.1, bt415.2.2.2.2.1, bt415.2.2.2.2.2)))) = some (r1, r2, r3, r4, r5, r6) := H
        have A26 := aA A260
        clear A260
        replace H := Option.bind_eq_some_iff.mp H
        obtain ⟨⟨t415, t418, t419, t420, t421, t422⟩, A270, H⟩ := H
        replace H : (if t422 = 0 then (foghornref04_Turn.l0 kj11 l1 l2 t408 (wrap64 (x9_1 + 1)) t415 t418 t419 t420 t421) else (some (t415, t418, t419, t420, t421, t422))) = some (r1, r2, r3, r4, r5, r6) := H
        have A27 := aA A270
        clear A270
        by_cases c28 : t422 = 0
        ·rw [if_pos c28] at H
         have c28b0 : (t422 == 0) = true := beq_iff_eq.mpr c28
         have c28b1 : (t422 != 0) = false := bne_eq_false_iff_eq.mpr c28
         clear c28
         have H' := aA H
         clear H
         go_wp2_with (first | ((with_reducible refine gate_callee (f := 42) rfl ?_); refine goesL_ (some 37) rfl rfl Try.func42 (by kernel_rfl) rfl #[.int .i64 t408, .int .i64 0, .string (⟨#[]⟩ : ByteArray)] rfl mS ?_; (with_reducible refine (foghornref03_Seal.calls t408 0 (⟨#[]⟩ : ByteArray) t411 _ A22.out).mono ?_); rintro e w29 ⟨rfl, hb⟩; refine ⟨_, rfl, ?_⟩; have n0_ := aA (Kd.V_below (by (with_reducible repeat (first | apply Kd.V_alloc | apply Kd.V_drewN | apply Kd.V_drew)); exact HO_407000.out) hb); have n1_ := aA (bB BK406.out hb); have n2_ := aA (bB BK407.out hb); have n3_ := aA (bB BK409.out hb); have n4_ := aA (below_step (mD3 GE406.out GE407.out GE409.out) hb); clear HO_407000 BK406 BK407 BK409 HB; have HO_407000 := n0_; have BK406 := n1_; have BK407 := n2_; have BK409 := n3_; have HB := n4_; clear n0_ n1_ n2_ n3_ n4_; (try clear hb); (try clear hb2); (try clear hk); (try clear hi); have hnb30 := NB406_407.out; have hnc30 := NB407_406.out; have hnb31 := NB406_409.out; have hnc31 := NB409_406.out; obtain ⟨hcz32_0, hcz32_1, hcz32_2, hcz32_3, hcz32_4⟩ := bC5 BK406.out; obtain ⟨hfz32_0, hfz32_1, hfz32_2, hfz32_3, hfz32_4⟩ := bF5 BK406.out; obtain ⟨Ao33, co33, eo33⟩ := Kd.V_slice HO_407000.out; subst eo33) | ((with_reducible refine gate_callee (f := 46) rfl ?_); refine goesL_ (some 46) rfl rfl Try.func46 (by kernel_rfl) rfl #[.agg #[.slice Ao33 x407000_1.length co33], .int .i64 t408, .int .i64 x9_1] rfl mS ?_; (with_reducible refine (foghornref04_place.calls _ _ x407000_1 t408 x9_1 t412 _ ?side1 ?side2 A24.out).mono ?_); (case side1 => exact mC ((Kd.V_reads' HO_407000.out).2.2)); (case side2 => exact (Kd.V_reads' HO_407000.out).2.1); rintro e w34 ⟨rfl, hb⟩; refine ⟨_, rfl, ?_⟩; have n0_ := aA (Kd.V_below (by (with_reducible repeat (first | apply Kd.V_alloc | apply Kd.V_drewN | apply Kd.V_drew)); exact HO_407000.out) hb); have n1_ := aA (bB BK406.out hb); have n2_ := aA (bB BK407.out hb); have n3_ := aA (bB BK409.out hb); have n4_ := aA (below_step (mD3 GE406.out GE407.out GE409.out) hb); clear HO_407000 BK406 BK407 BK409 HB; have HO_407000 := n0_; have BK406 := n1_; have BK407 := n2_; have BK409 := n3_; have HB := n4_; clear n0_ n1_ n2_ n3_ n4_; (try clear hb); (try clear hb2); (try clear hk); (try clear hi); have p413 : 0 ≤ (x9_1 : Int) := of_decide_eq_true (by first | (with_reducible assumption) | assumption); have q413 : x9_1 < (l1.length : Int) := of_decide_eq_true (by first | (with_reducible assumption) | assumption); obtain ⟨ad413, e413, hx413_0⟩ := Kd.at_string HR1.out x9_1 p413 q413; cases e413; replace hx413_0 := (HB.out.cell (World.block_lt_of_cell? w _ hx413_0)).trans hx413_0; replace p413 := eq_true p413; replace q413 := eq_true q413) | ((with_reducible refine gate_callee (f := 42) rfl ?_); refine goesL_ (some 54) rfl rfl Try.func42 (by kernel_rfl) rfl #[.int .i64 t408, .int .i64 (wrap64 (x9_1 + 1)), .string (rdOf ByteArray.empty l1 x9_1)] rfl mS ?_; (with_reducible refine (foghornref03_Seal.calls t408 (wrap64 (x9_1 + 1)) (rdOf ByteArray.empty l1 x9_1) t414 _ A26.out).mono ?_); rintro e w35 ⟨rfl, hb⟩; refine ⟨_, rfl, ?_⟩; have n0_ := aA (Kd.V_below (by (with_reducible repeat (first | apply Kd.V_alloc | apply Kd.V_drewN | apply Kd.V_drew)); exact HO_407000.out) hb); have n1_ := aA (bB BK406.out hb); have n2_ := aA (bB BK407.out hb); have n3_ := aA (bB BK409.out hb); have n4_ := aA (below_step (mD3 GE406.out GE407.out GE409.out) hb); clear HO_407000 BK406 BK407 BK409 HB; have HO_407000 := n0_; have BK406 := n1_; have BK407 := n2_; have BK409 := n3_; have HB := n4_; clear n0_ n1_ n2_ n3_ n4_; (try clear hb); (try clear hb2); (try clear hk); (try clear hi); obtain ⟨hcz36_0, hcz36_1, hcz36_2, hcz36_3, hcz36_4⟩ := bC5 BK406.out; obtain ⟨hfz36_0, hfz36_1, hfz36_2, hfz36_3, hfz36_4⟩ := bF5 BK406.out; have hnb37 := NB409_407.out; have hnc37 := NB407_409.out; obtain ⟨hcz38_0, hcz38_1⟩ := bC2 BK409.out; obtain ⟨hfz38_0, hfz38_1⟩ := bF2 BK409.out) | ((with_reducible refine gate_callee (f := 53) rfl ?_); refine goesL_ (some 60) rfl rfl Try.func53 (by kernel_rfl) rfl #[.agg #[.slice Ao33 x407000_1.length co33, .int .i64 x407001_1, .int .i64 x407002_1, .int .i64 x407003_1, .bool x407004_1], .int .i64 t412, .string t414, .agg #[.int .i64 x410000_11, .int .i64 x410001_11]] rfl mS ?_; (with_reducible refine (foghornref04_write.calls kj11 (fun k_ => ((P0_0_ k_ ∨ w.heap.size ≤ k_) ∧ (k_ ≠ gb406 ∧ (k_ ≠ gb407 ∧ k_ ≠ gb409)))) _ _ x407000_1 x407001_1 x407002_1 x407003_1 x407004_1 t412 t414 x410000_11 x410001_11 t415 t418 t419 t420 t421 t422 _ ?side1 A27.out).mono ?_); (case side1 => exact HO_407000.out); rintro e w39 ⟨v416, rfl, ho0, hb⟩; refine ⟨_, rfl, ?_⟩; have n0_ := aA (Kd.V_below (by (with_reducible repeat (first | apply Kd.V_alloc | apply Kd.V_drewN | apply Kd.V_drew)); exact HO_407000.out) hb); have n1_ := aA (Kd.V_lower (Kd.V_mono (ok' := fun k_ => (P0_0_ k_ ∨ w.heap.size ≤ k_) ∧ k_ ≠ gb406 ∧ k_ ≠ gb407 ∧ k_ ≠ gb409) ho0 (fun k_ hk_ => ⟨Or.elim hk_ (fun hs_ => hs_.1) (fun hn_ => (.inr (Nat.le_trans (below_size (mD3 GE406.out GE407.out GE409.out)) hn_))), Or.elim hk_ (fun hs_ => hs_.2.1) (fun hn_ => (Kd.freshB (g := gb406) (o := .cells #[.slice Ao33 x407000_1.length co33, .int .i64 x407001_1, .int .i64 x407002_1, .int .i64 x407003_1, .bool x407004_1] 26 (0, 0)) (mK BK406.out) k_ hn_)), Or.elim hk_ (fun hs_ => hs_.2.2.1) (fun hn_ => (Kd.freshB (g := gb407) (o := .cells #[.slice none 0 0, .int .i64 x408001_1, .int .i64 x408002_1, .int .i64 x408003_1, .bool x408004_1] 26 (0, 0)) (mK BK407.out) k_ hn_)), Or.elim hk_ (fun hs_ => hs_.2.2.2) (fun hn_ => (Kd.freshB (g := gb409) (o := .cells #[.int .i64 x410000_11, .int .i64 x410001_11] 45 (0, 0)) (mK BK409.out) k_ hn_))⟩)) (below_size (mD3 GE406.out GE407.out GE409.out))); have n2_ := aA (bB BK406.out hb); have n3_ := aA (bB BK407.out hb); have n4_ := aA (bB BK409.out hb); have n5_ := aA (below_step (mD3 GE406.out GE407.out GE409.out) hb); clear HO_407000 BK406 BK407 BK409 HB; have HO_407000 := n0_; have HO417 := n1_; have BK406 := n2_; have BK407 := n3_; have BK409 := n4_; have HB := n5_; clear n0_ n1_ n2_ n3_ n4_ n5_; (try clear hb); (try clear hb2); (try clear hk); (try clear hi); (try clear ho0)) | ((with_reducible refine gate_dst (N := 13) rfl ?_); refine box_event ?hg (N := 13) ?hd (cs := #[.slice none 0 0, .int .i64 0, .int .i64 0, .int .i64 0, .bool false]) (t := 26) ?hr ?_; (case hd => rfl); (case hg => rfl); (case hr => first | (go_simp; done) | (go_simp; rfl)); intro gb423 hg w40 hbox hb; have n0_ := aA (Kd.V_below (Kd.V_elderB (by (with_reducible repeat (first | apply Kd.V_alloc | apply Kd.V_drewN | apply Kd.V_drew)); exact HO_407000.out) gb423 (Nat.le_of_eq hg.symm)) hb); have n1_ := aA (Kd.V_below (Kd.V_elderB (by (with_reducible repeat (first | apply Kd.V_alloc | apply Kd.V_drewN | apply Kd.V_drew)); exact HO417.out) gb423 (Nat.le_of_eq hg.symm)) hb); have n2_ := aA (bB BK406.out hb); have n3_ := aA (bB BK407.out hb); have n4_ := aA (bB BK409.out hb); have n5_ := aA (below_step (mD3 GE406.out GE407.out GE409.out) hb); have n6_ := aA (hbox); have n7_ := aA ((bZ hg (mD3 GE406.out GE407.out GE409.out))); have n8_ := aA ((bZ hg (mD3 GE406.out GE407.out GE409.out))); have n9_ := aA ((bL hg BK406.out)); have n10_ := aA ((bG hg BK406.out)); have n11_ := aA ((bL hg BK407.out)); have n12_ := aA ((bG hg BK407.out)); have n13_ := aA ((bL hg BK409.out)); have n14_ := aA ((bG hg BK409.out)); clear HO_407000 HO417 BK406 BK407 BK409 HB; have HO_407000 := n0_; have HO417 := n1_; have BK406 := n2_; have BK407 := n3_; have BK409 := n4_; have HB := n5_; have BK423 := n6_; have GW423 := n7_; have GE423 := n8_; have NB406_423 := n9_; have NB423_406 := n10_; have NB407_423 := n11_; have NB423_407 := n12_; have NB409_423 := n13_; have NB423_409 := n14_; clear n0_ n1_ n2_ n3_ n4_ n5_ n6_ n7_ n8_ n9_ n10_ n11_ n12_ n13_ n14_ hb hbox hg; obtain ⟨Ao41, co41, eo41⟩ := Kd.V_slice HO417.out; subst eo41; have hnb42 := NB423_406.out; have hnc42 := NB406_423.out; have hnb43 := NB423_407.out; have hnc43 := NB407_423.out; have hnb44 := NB423_409.out; have hnc44 := NB409_423.out; obtain ⟨hcz45_0, hcz45_1, hcz45_2, hcz45_3, hcz45_4⟩ := bC5 BK423.out; obtain ⟨hfz45_0, hfz45_1, hfz45_2, hfz45_3, hfz45_4⟩ := bF5 BK423.out; obtain ⟨hcz46_0, hcz46_1, hcz46_2, hcz46_3, hcz46_4⟩ := bC5 BK406.out; obtain ⟨hfz46_0, hfz46_1, hfz46_2, hfz46_3, hfz46_4⟩ := bF5 BK406.out))
         go_roundg kj11
         case measure => have := HK1.out; have := HJ11.out; omega
         case rel => exact ⟨(wrap64 (x9_1 + 1)), (t415), (t418), (t419), (t420), (t421), (x408001_1), (x408002_1), (x408003_1), (x408004_1), (.slice Ao41 t415.length co41), (by first | rfl | (simp; done) | (simp [*]; done)), H', ⟨by have := HK1.out; have := HJ11.out; omega⟩, ⟨by (with_reducible repeat (first | apply Kd.V_alloc | apply Kd.V_drewN | apply Kd.V_drew)); exact Kd.V_mono (Kd.V_far (p := ⟨gb406, 4, none⟩) (Kd.V_far (p := ⟨gb406, 3, none⟩) (Kd.V_far (p := ⟨gb406, 2, none⟩) (Kd.V_far (p := ⟨gb406, 1, none⟩) (Kd.V_far (p := ⟨gb406, 0, none⟩) (Kd.V_far (p := ⟨gb423, 4, none⟩) (Kd.V_far (p := ⟨gb423, 3, none⟩) (Kd.V_far (p := ⟨gb423, 2, none⟩) (Kd.V_far (p := ⟨gb423, 1, none⟩) (Kd.V_far (p := ⟨gb423, 0, none⟩) (Kd.V_mono (Kd.V_mono HO417.out (fun k_ hk => (⟨hk, hk.2⟩ : _ ∧ k_ ≠ gb423))) (fun k_ hk => (⟨hk, hk.1.1.2.1⟩ : _ ∧ k_ ≠ gb406))) (fun _ hk => hk.1.2) (.slice Ao41 t415.length co41)) (fun _ hk => hk.1.2) (.int .i64 t418)) (fun _ hk => hk.1.2) (.int .i64 t419)) (fun _ hk => hk.1.2) (.int .i64 t420)) (fun _ hk => hk.1.2) (.bool t421)) (fun _ hk => hk.2) (.slice Ao41 t415.length co41)) (fun _ hk => hk.2) (.int .i64 t418)) (fun _ hk => hk.2) (.int .i64 t419)) (fun _ hk => hk.2) (.int .i64 t420)) (fun _ hk => hk.2) (.bool t421)) (fun _ hk => ⟨hk.1.1.1.1, ⟨hk.1.1.1.2.1, hk.1.1.1.2.2.1⟩⟩)⟩, ⟨by (with_reducible repeat (first | refine blk_drewN ?_ _ | refine blk_drew ?_ | refine blk_alloc ?_ _)); refine blk_put (cs := #[.slice Ao41 t415.length co41, .int .i64 t418, .int .i64 t419, .int .i64 t420, .bool x407004_1]) ?_ 4 _ rfl; (with_reducible repeat (first | refine blk_drewN ?_ _ | refine blk_drew ?_ | refine blk_alloc ?_ _)); refine blk_put (cs := #[.slice Ao41 t415.length co41, .int .i64 t418, .int .i64 t419, .int .i64 x407003_1, .bool x407004_1]) ?_ 3 _ rfl; (with_reducible repeat (first | refine blk_drewN ?_ _ | refine blk_drew ?_ | refine blk_alloc ?_ _)); refine blk_put (cs := #[.slice Ao41 t415.length co41, .int .i64 t418, .int .i64 x407002_1, .int .i64 x407003_1, .bool x407004_1]) ?_ 2 _ rfl; (with_reducible repeat (first | refine blk_drewN ?_ _ | refine blk_drew ?_ | refine blk_alloc ?_ _)); refine blk_put (cs := #[.slice Ao41 t415.length co41, .int .i64 x407001_1, .int .i64 x407002_1, .int .i64 x407003_1, .bool x407004_1]) ?_ 1 _ rfl; (with_reducible repeat (first | refine blk_drewN ?_ _ | refine blk_drew ?_ | refine blk_alloc ?_ _)); refine blk_put (cs := #[.slice Ao33 x407000_1.length co33, .int .i64 x407001_1, .int .i64 x407002_1, .int .i64 x407003_1, .bool x407004_1]) ?_ 0 _ rfl; (with_reducible repeat (first | refine blk_drewN ?_ _ | refine blk_drew ?_ | refine blk_alloc ?_ _)); refine blk_far ?_ NB406_423.out _; (with_reducible repeat (first | refine blk_drewN ?_ _ | refine blk_drew ?_ | refine blk_alloc ?_ _)); refine blk_far ?_ NB406_423.out _; (with_reducible repeat (first | refine blk_drewN ?_ _ | refine blk_drew ?_ | refine blk_alloc ?_ _)); refine blk_far ?_ NB406_423.out _; (with_reducible repeat (first | refine blk_drewN ?_ _ | refine blk_drew ?_ | refine blk_alloc ?_ _)); refine blk_far ?_ NB406_423.out _; (with_reducible repeat (first | refine blk_drewN ?_ _ | refine blk_drew ?_ | refine blk_alloc ?_ _)); refine blk_far ?_ NB406_423.out _; (with_reducible repeat (first | refine blk_drewN ?_ _ | refine blk_drew ?_ | refine blk_alloc ?_ _)); exact BK406.out⟩, ⟨by (with_reducible repeat (first | refine blk_drewN ?_ _ | refine blk_drew ?_ | refine blk_alloc ?_ _)); refine blk_far ?_ NB407_406.out _; (with_reducible repeat (first | refine blk_drewN ?_ _ | refine blk_drew ?_ | refine blk_alloc ?_ _)); refine blk_far ?_ NB407_406.out _; (with_reducible repeat (first | refine blk_drewN ?_ _ | refine blk_drew ?_ | refine blk_alloc ?_ _)); refine blk_far ?_ NB407_406.out _; (with_reducible repeat (first | refine blk_drewN ?_ _ | refine blk_drew ?_ | refine blk_alloc ?_ _)); refine blk_far ?_ NB407_406.out _; (with_reducible repeat (first | refine blk_drewN ?_ _ | refine blk_drew ?_ | refine blk_alloc ?_ _)); refine blk_far ?_ NB407_406.out _; (with_reducible repeat (first | refine blk_drewN ?_ _ | refine blk_drew ?_ | refine blk_alloc ?_ _)); refine blk_far ?_ NB407_423.out _; (with_reducible repeat (first | refine blk_drewN ?_ _ | refine blk_drew ?_ | refine blk_alloc ?_ _)); refine blk_far ?_ NB407_423.out _; (with_reducible repeat (first | refine blk_drewN ?_ _ | refine blk_drew ?_ | refine blk_alloc ?_ _)); refine blk_far ?_ NB407_423.out _; (with_reducible repeat (first | refine blk_drewN ?_ _ | refine blk_drew ?_ | refine blk_alloc ?_ _)); refine blk_far ?_ NB407_423.out _; (with_reducible repeat (first | refine blk_drewN ?_ _ | refine blk_drew ?_ | refine blk_alloc ?_ _)); refine blk_far ?_ NB407_423.out _; (with_reducible repeat (first | refine blk_drewN ?_ _ | refine blk_drew ?_ | refine blk_alloc ?_ _)); exact BK407.out⟩, ⟨by repeat (first | (with_reducible first | exact HB.out | apply below_alloc | apply pw_below_drewN | apply below_drew1 | refine below_set ?_ GE406.out | refine below_set ?_ GE407.out | refine below_set ?_ GE409.out | refine below_set ?_ GE423.out) | exact HB.out)⟩⟩
        ·rw [if_neg c28] at H
         have c28b0 : (t422 == 0) = false := beq_eq_false_iff_ne.mpr c28
         have c28b1 : (t422 != 0) = true := bne_iff_ne.mpr c28
         simp only [Option.some.injEq, Prod.mk.injEq] at H
         obtain ⟨rfl, rfl, rfl, rfl, rfl, rfl⟩ := H
         go_wp2_with (first | ((with_reducible refine gate_callee (f := 42) rfl ?_); refine goesL_ (some 37) rfl rfl Try.func42 (by kernel_rfl) rfl #[.int .i64 t408, .int .i64 0, .string (⟨#[]⟩ : ByteArray)] rfl mS ?_; (with_reducible refine (foghornref03_Seal.calls t408 0 (⟨#[]⟩ : ByteArray) t411 _ A22.out).mono ?_); rintro e w47 ⟨rfl, hb⟩; refine ⟨_, rfl, ?_⟩; have n0_ := aA (Kd.V_below (by (with_reducible repeat (first | apply Kd.V_alloc | apply Kd.V_drewN | apply Kd.V_drew)); exact HO_407000.out) hb); have n1_ := aA (bB BK406.out hb); have n2_ := aA (bB BK407.out hb); have n3_ := aA (bB BK409.out hb); have n4_ := aA (below_step (mD3 GE406.out GE407.out GE409.out) hb); clear HO_407000 BK406 BK407 BK409 HB; have HO_407000 := n0_; have BK406 := n1_; have BK407 := n2_; have BK409 := n3_; have HB := n4_; clear n0_ n1_ n2_ n3_ n4_; (try clear hb); (try clear hb2); (try clear hk); (try clear hi); have hnb48 := NB406_407.out; have hnc48 := NB407_406.out; have hnb49 := NB406_409.out; have hnc49 := NB409_406.out; obtain ⟨hcz50_0, hcz50_1, hcz50_2, hcz50_3, hcz50_4⟩ := bC5 BK406.out; obtain ⟨hfz50_0, hfz50_1, hfz50_2, hfz50_3, hfz50_4⟩ := bF5 BK406.out; obtain ⟨Ao51, co51, eo51⟩ := Kd.V_slice HO_407000.out; subst eo51) | ((with_reducible refine gate_callee (f := 46) rfl ?_); refine goesL_ (some 46) rfl rfl Try.func46 (by kernel_rfl) rfl #[.agg #[.slice Ao51 x407000_1.length co51], .int .i64 t408, .int .i64 x9_1] rfl mS ?_; (with_reducible refine (foghornref04_place.calls _ _ x407000_1 t408 x9_1 t412 _ ?side1 ?side2 A24.out).mono ?_); (case side1 => exact mC ((Kd.V_reads' HO_407000.out).2.2)); (case side2 => exact (Kd.V_reads' HO_407000.out).2.1); rintro e w52 ⟨rfl, hb⟩; refine ⟨_, rfl, ?_⟩; have n0_ := aA (Kd.V_below (by (with_reducible repeat (first | apply Kd.V_alloc | apply Kd.V_drewN | apply Kd.V_drew)); exact HO_407000.out) hb); have n1_ := aA (bB BK406.out hb); have n2_ := aA (bB BK407.out hb); have n3_ := aA (bB BK409.out hb); have n4_ := aA (below_step (mD3 GE406.out GE407.out GE409.out) hb); clear HO_407000 BK406 BK407 BK409 HB; have HO_407000 := n0_; have BK406 := n1_; have BK407 := n2_; have BK409 := n3_; have HB := n4_; clear n0_ n1_ n2_ n3_ n4_; (try clear hb); (try clear hb2); (try clear hk); (try clear hi); have p413 : 0 ≤ (x9_1 : Int) := of_decide_eq_true (by first | (with_reducible assumption) | assumption); have q413 : x9_1 < (l1.length : Int) := of_decide_eq_true (by first | (with_reducible assumption) | assumption); obtain ⟨ad413, e413, hx413_0⟩ := Kd.at_string HR1.out x9_1 p413 q413; cases e413; replace hx413_0 := (HB.out.cell (World.block_lt_of_cell? w _ hx413_0)).trans hx413_0; replace p413 := eq_true p413; replace q413 := eq_true q413) | ((with_reducible refine gate_callee (f := 42) rfl ?_); refine goesL_ (some 54) rfl rfl Try.func42 (by kernel_rfl) rfl #[.int .i64 t408, .int .i64 (wrap64 (x9_1 + 1)), .string (rdOf ByteArray.empty l1 x9_1)] rfl mS ?_; (with_reducible refine (foghornref03_Seal.calls t408 (wrap64 (x9_1 + 1)) (rdOf ByteArray.empty l1 x9_1) t414 _ A26.out).mono ?_); rintro e w53 ⟨rfl, hb⟩; refine ⟨_, rfl, ?_⟩; have n0_ := aA (Kd.V_below (by (with_reducible repeat (first | apply Kd.V_alloc | apply Kd.V_drewN | apply Kd.V_drew)); exact HO_407000.out) hb); have n1_ := aA (bB BK406.out hb); have n2_ := aA (bB BK407.out hb); have n3_ := aA (bB BK409.out hb); have n4_ := aA (below_step (mD3 GE406.out GE407.out GE409.out) hb); clear HO_407000 BK406 BK407 BK409 HB; have HO_407000 := n0_; have BK406 := n1_; have BK407 := n2_; have BK409 := n3_; have HB := n4_; clear n0_ n1_ n2_ n3_ n4_; (try clear hb); (try clear hb2); (try clear hk); (try clear hi); obtain ⟨hcz54_0, hcz54_1, hcz54_2, hcz54_3, hcz54_4⟩ := bC5 BK406.out; obtain ⟨hfz54_0, hfz54_1, hfz54_2, hfz54_3, hfz54_4⟩ := bF5 BK406.out; have hnb55 := NB409_407.out; have hnc55 := NB407_409.out; obtain ⟨hcz56_0, hcz56_1⟩ := bC2 BK409.out; obtain ⟨hfz56_0, hfz56_1⟩ := bF2 BK409.out) | ((with_reducible refine gate_callee (f := 53) rfl ?_); refine goesL_ (some 60) rfl rfl Try.func53 (by kernel_rfl) rfl #[.agg #[.slice Ao51 x407000_1.length co51, .int .i64 x407001_1, .int .i64 x407002_1, .int .i64 x407003_1, .bool x407004_1], .int .i64 t412, .string t414, .agg #[.int .i64 x410000_11, .int .i64 x410001_11]] rfl mS ?_; (with_reducible refine (foghornref04_write.calls kj11 (fun k_ => ((P0_0_ k_ ∨ w.heap.size ≤ k_) ∧ (k_ ≠ gb406 ∧ (k_ ≠ gb407 ∧ k_ ≠ gb409)))) _ _ x407000_1 x407001_1 x407002_1 x407003_1 x407004_1 t412 t414 x410000_11 x410001_11 t415 t418 t419 t420 t421 t422 _ ?side1 A27.out).mono ?_); (case side1 => exact HO_407000.out); rintro e w57 ⟨v416, rfl, ho0, hb⟩; refine ⟨_, rfl, ?_⟩; have n0_ := aA (Kd.V_below (by (with_reducible repeat (first | apply Kd.V_alloc | apply Kd.V_drewN | apply Kd.V_drew)); exact HO_407000.out) hb); have n1_ := aA (Kd.V_lower (Kd.V_mono (ok' := fun k_ => (P0_0_ k_ ∨ w.heap.size ≤ k_) ∧ k_ ≠ gb406 ∧ k_ ≠ gb407 ∧ k_ ≠ gb409) ho0 (fun k_ hk_ => ⟨Or.elim hk_ (fun hs_ => hs_.1) (fun hn_ => (.inr (Nat.le_trans (below_size (mD3 GE406.out GE407.out GE409.out)) hn_))), Or.elim hk_ (fun hs_ => hs_.2.1) (fun hn_ => (Kd.freshB (g := gb406) (o := .cells #[.slice Ao51 x407000_1.length co51, .int .i64 x407001_1, .int .i64 x407002_1, .int .i64 x407003_1, .bool x407004_1] 26 (0, 0)) (mK BK406.out) k_ hn_)), Or.elim hk_ (fun hs_ => hs_.2.2.1) (fun hn_ => (Kd.freshB (g := gb407) (o := .cells #[.slice none 0 0, .int .i64 x408001_1, .int .i64 x408002_1, .int .i64 x408003_1, .bool x408004_1] 26 (0, 0)) (mK BK407.out) k_ hn_)), Or.elim hk_ (fun hs_ => hs_.2.2.2) (fun hn_ => (Kd.freshB (g := gb409) (o := .cells #[.int .i64 x410000_11, .int .i64 x410001_11] 45 (0, 0)) (mK BK409.out) k_ hn_))⟩)) (below_size (mD3 GE406.out GE407.out GE409.out))); have n2_ := aA (bB BK406.out hb); have n3_ := aA (bB BK407.out hb); have n4_ := aA (bB BK409.out hb); have n5_ := aA (below_step (mD3 GE406.out GE407.out GE409.out) hb); clear HO_407000 BK406 BK407 BK409 HB; have HO_407000 := n0_; have HO417 := n1_; have BK406 := n2_; have BK407 := n3_; have BK409 := n4_; have HB := n5_; clear n0_ n1_ n2_ n3_ n4_ n5_; (try clear hb); (try clear hb2); (try clear hk); (try clear hi); (try clear ho0)) | ((with_reducible refine gate_dst (N := 13) rfl ?_); refine box_event ?hg (N := 13) ?hd (cs := #[.slice none 0 0, .int .i64 0, .int .i64 0, .int .i64 0, .bool false]) (t := 26) ?hr ?_; (case hd => rfl); (case hg => rfl); (case hr => first | (go_simp; done) | (go_simp; rfl)); intro gb423 hg w58 hbox hb; have n0_ := aA (Kd.V_below (Kd.V_elderB (by (with_reducible repeat (first | apply Kd.V_alloc | apply Kd.V_drewN | apply Kd.V_drew)); exact HO_407000.out) gb423 (Nat.le_of_eq hg.symm)) hb); have n1_ := aA (Kd.V_below (Kd.V_elderB (by (with_reducible repeat (first | apply Kd.V_alloc | apply Kd.V_drewN | apply Kd.V_drew)); exact HO417.out) gb423 (Nat.le_of_eq hg.symm)) hb); have n2_ := aA (bB BK406.out hb); have n3_ := aA (bB BK407.out hb); have n4_ := aA (bB BK409.out hb); have n5_ := aA (below_step (mD3 GE406.out GE407.out GE409.out) hb); have n6_ := aA (hbox); have n7_ := aA ((bZ hg (mD3 GE406.out GE407.out GE409.out))); have n8_ := aA ((bZ hg (mD3 GE406.out GE407.out GE409.out))); have n9_ := aA ((bL hg BK406.out)); have n10_ := aA ((bG hg BK406.out)); have n11_ := aA ((bL hg BK407.out)); have n12_ := aA ((bG hg BK407.out)); have n13_ := aA ((bL hg BK409.out)); have n14_ := aA ((bG hg BK409.out)); clear HO_407000 HO417 BK406 BK407 BK409 HB; have HO_407000 := n0_; have HO417 := n1_; have BK406 := n2_; have BK407 := n3_; have BK409 := n4_; have HB := n5_; have BK423 := n6_; have GW423 := n7_; have GE423 := n8_; have NB406_423 := n9_; have NB423_406 := n10_; have NB407_423 := n11_; have NB423_407 := n12_; have NB409_423 := n13_; have NB423_409 := n14_; clear n0_ n1_ n2_ n3_ n4_ n5_ n6_ n7_ n8_ n9_ n10_ n11_ n12_ n13_ n14_ hb hbox hg; obtain ⟨Ao59, co59, eo59⟩ := Kd.V_slice HO417.out; subst eo59; have hnb60 := NB423_406.out; have hnc60 := NB406_423.out; have hnb61 := NB423_407.out; have hnc61 := NB407_423.out; have hnb62 := NB423_409.out; have hnc62 := NB409_423.out; obtain ⟨hcz63_0, hcz63_1, hcz63_2, hcz63_3, hcz63_4⟩ := bC5 BK423.out; obtain ⟨hfz63_0, hfz63_1, hfz63_2, hfz63_3, hfz63_4⟩ := bF5 BK423.out; obtain ⟨hcz64_0, hcz64_1, hcz64_2, hcz64_3, hcz64_4⟩ := bC5 BK406.out; obtain ⟨hfz64_0, hfz64_1, hfz64_2, hfz64_3, hfz64_4⟩ := bF5 BK406.out; obtain ⟨hcz65_0, hcz65_1, hcz65_2, hcz65_3, hcz65_4⟩ := bC5 BK407.out; obtain ⟨hfz65_0, hfz65_1, hfz65_2, hfz65_3, hfz65_4⟩ := bF5 BK407.out))
         refine bodyPost_ret (results_ct rfl _ _ gb407 26 #[.slice Ao59 t415.length co59, .int .i64 t418, .int .i64 t419, .int .i64 t420, .bool t421] (0, 0) _ rfl (by (with_reducible repeat (first | refine blk_drewN ?_ _ | refine blk_drew ?_ | refine blk_alloc ?_ _)); refine blk_put (cs := #[.slice Ao59 t415.length co59, .int .i64 t418, .int .i64 t419, .int .i64 t420, .bool x408004_1]) ?_ 4 _ rfl; (with_reducible repeat (first | refine blk_drewN ?_ _ | refine blk_drew ?_ | refine blk_alloc ?_ _)); refine blk_put (cs := #[.slice Ao59 t415.length co59, .int .i64 t418, .int .i64 t419, .int .i64 x408003_1, .bool x408004_1]) ?_ 3 _ rfl; (with_reducible repeat (first | refine blk_drewN ?_ _ | refine blk_drew ?_ | refine blk_alloc ?_ _)); refine blk_put (cs := #[.slice Ao59 t415.length co59, .int .i64 t418, .int .i64 x408002_1, .int .i64 x408003_1, .bool x408004_1]) ?_ 2 _ rfl; (with_reducible repeat (first | refine blk_drewN ?_ _ | refine blk_drew ?_ | refine blk_alloc ?_ _)); refine blk_put (cs := #[.slice Ao59 t415.length co59, .int .i64 x408001_1, .int .i64 x408002_1, .int .i64 x408003_1, .bool x408004_1]) ?_ 1 _ rfl; (with_reducible repeat (first | refine blk_drewN ?_ _ | refine blk_drew ?_ | refine blk_alloc ?_ _)); refine blk_put (cs := #[.slice none 0 0, .int .i64 x408001_1, .int .i64 x408002_1, .int .i64 x408003_1, .bool x408004_1]) ?_ 0 _ rfl; (with_reducible repeat (first | refine blk_drewN ?_ _ | refine blk_drew ?_ | refine blk_alloc ?_ _)); refine blk_far ?_ NB407_406.out _; (with_reducible repeat (first | refine blk_drewN ?_ _ | refine blk_drew ?_ | refine blk_alloc ?_ _)); refine blk_far ?_ NB407_406.out _; (with_reducible repeat (first | refine blk_drewN ?_ _ | refine blk_drew ?_ | refine blk_alloc ?_ _)); refine blk_far ?_ NB407_406.out _; (with_reducible repeat (first | refine blk_drewN ?_ _ | refine blk_drew ?_ | refine blk_alloc ?_ _)); refine blk_far ?_ NB407_406.out _; (with_reducible repeat (first | refine blk_drewN ?_ _ | refine blk_drew ?_ | refine blk_alloc ?_ _)); refine blk_far ?_ NB407_406.out _; (with_reducible repeat (first | refine blk_drewN ?_ _ | refine blk_drew ?_ | refine blk_alloc ?_ _)); refine blk_far ?_ NB407_423.out _; (with_reducible repeat (first | refine blk_drewN ?_ _ | refine blk_drew ?_ | refine blk_alloc ?_ _)); refine blk_far ?_ NB407_423.out _; (with_reducible repeat (first | refine blk_drewN ?_ _ | refine blk_drew ?_ | refine blk_alloc ?_ _)); refine blk_far ?_ NB407_423.out _; (with_reducible repeat (first | refine blk_drewN ?_ _ | refine blk_drew ?_ | refine blk_alloc ?_ _)); refine blk_far ?_ NB407_423.out _; (with_reducible repeat (first | refine blk_drewN ?_ _ | refine blk_drew ?_ | refine blk_alloc ?_ _)); refine blk_far ?_ NB407_423.out _; (with_reducible repeat (first | refine blk_drewN ?_ _ | refine blk_drew ?_ | refine blk_alloc ?_ _)); exact BK407.out) Try.underlying26 rfl (by kernel_rfl)) rfl ?_
         exact ⟨_, by first | rfl | (simp [errW_none, errW_some] <;> rfl) | (simp [*, errW_none, errW_some] <;> rfl), by (with_reducible repeat (first | apply Kd.V_alloc | apply Kd.V_drewN | apply Kd.V_drew)); exact Kd.V_mono (Kd.V_far (p := ⟨gb407, 4, none⟩) (Kd.V_far (p := ⟨gb407, 3, none⟩) (Kd.V_far (p := ⟨gb407, 2, none⟩) (Kd.V_far (p := ⟨gb407, 1, none⟩) (Kd.V_far (p := ⟨gb407, 0, none⟩) (Kd.V_far (p := ⟨gb406, 4, none⟩) (Kd.V_far (p := ⟨gb406, 3, none⟩) (Kd.V_far (p := ⟨gb406, 2, none⟩) (Kd.V_far (p := ⟨gb406, 1, none⟩) (Kd.V_far (p := ⟨gb406, 0, none⟩) (Kd.V_far (p := ⟨gb423, 4, none⟩) (Kd.V_far (p := ⟨gb423, 3, none⟩) (Kd.V_far (p := ⟨gb423, 2, none⟩) (Kd.V_far (p := ⟨gb423, 1, none⟩) (Kd.V_far (p := ⟨gb423, 0, none⟩) (Kd.V_mono (Kd.V_mono (Kd.V_mono HO417.out (fun k_ hk => (⟨hk, hk.2⟩ : _ ∧ k_ ≠ gb423))) (fun k_ hk => (⟨hk, hk.1.1.2.1⟩ : _ ∧ k_ ≠ gb406))) (fun k_ hk => (⟨hk, hk.1.1.1.2.2.1⟩ : _ ∧ k_ ≠ gb407))) (fun _ hk => hk.1.1.2) (.slice Ao59 t415.length co59)) (fun _ hk => hk.1.1.2) (.int .i64 t418)) (fun _ hk => hk.1.1.2) (.int .i64 t419)) (fun _ hk => hk.1.1.2) (.int .i64 t420)) (fun _ hk => hk.1.1.2) (.bool t421)) (fun _ hk => hk.1.2) (.slice Ao59 t415.length co59)) (fun _ hk => hk.1.2) (.int .i64 t418)) (fun _ hk => hk.1.2) (.int .i64 t419)) (fun _ hk => hk.1.2) (.int .i64 t420)) (fun _ hk => hk.1.2) (.bool t421)) (fun _ hk => hk.2) (.slice Ao59 t415.length co59)) (fun _ hk => hk.2) (.int .i64 t418)) (fun _ hk => hk.2) (.int .i64 t419)) (fun _ hk => hk.2) (.int .i64 t420)) (fun _ hk => hk.2) (.bool t421)) (fun _ hk => hk.1.1.1.1.1), by repeat (first | (with_reducible first | exact HB.out | apply below_alloc | apply pw_below_drewN | apply below_drew1 | refine below_set ?_ GE406.out | refine below_set ?_ GE407.out | refine below_set ?_ GE409.out | refine below_set ?_ GE423.out) | exact HB.out)⟩
       ·rw [if_neg c25] at H
        exact absurd H (by simp)
      ·rw [if_neg c23] at H
       have c23b0 : decide (x9_1 < (l1.length : Int)) = false := decide_eq_false c23
       clear c23
       replace H := Option.bind_eq_some_iff.mp H
       obtain ⟨⟨t424, t427, t428, t429, t430, t431⟩, A660, H⟩ := H
       replace H : (if t431 = 0 then (foghornref04_Turn.l0 kj11 l1 l2 t408 (wrap64 (x9_1 + 1)) t424 t427 t428 t429 t430) else (some (t424, t427, t428, t429, t430, t431))) = some (r1, r2, r3, r4, r5, r6) := H
       have A66 := aA A660
       clear A660
       by_cases c67 : t431 = 0
       ·rw [if_pos c67] at H
        have c67b0 : (t431 == 0) = true := beq_iff_eq.mpr c67
        have c67b1 : (t431 != 0) = false := bne_eq_false_iff_eq.mpr c67
        clear c67
        have H' := aA H
        clear H
        go_wp2_with (first | ((with_reducible refine gate_callee (f := 42) rfl ?_); refine goesL_ (some 37) rfl rfl Try.func42 (by kernel_rfl) rfl #[.int .i64 t408, .int .i64 0, .string (⟨#[]⟩ : ByteArray)] rfl mS ?_; (with_reducible refine (foghornref03_Seal.calls t408 0 (⟨#[]⟩ : ByteArray) t411 _ A22.out).mono ?_); rintro e w68 ⟨rfl, hb⟩; refine ⟨_, rfl, ?_⟩; have n0_ := aA (Kd.V_below (by (with_reducible repeat (first | apply Kd.V_alloc | apply Kd.V_drewN | apply Kd.V_drew)); exact HO_407000.out) hb); have n1_ := aA (bB BK406.out hb); have n2_ := aA (bB BK407.out hb); have n3_ := aA (bB BK409.out hb); have n4_ := aA (below_step (mD3 GE406.out GE407.out GE409.out) hb); clear HO_407000 BK406 BK407 BK409 HB; have HO_407000 := n0_; have BK406 := n1_; have BK407 := n2_; have BK409 := n3_; have HB := n4_; clear n0_ n1_ n2_ n3_ n4_; (try clear hb); (try clear hb2); (try clear hk); (try clear hi); have hnb69 := NB406_407.out; have hnc69 := NB407_406.out; have hnb70 := NB406_409.out; have hnc70 := NB409_406.out; obtain ⟨hcz71_0, hcz71_1, hcz71_2, hcz71_3, hcz71_4⟩ := bC5 BK406.out; obtain ⟨hfz71_0, hfz71_1, hfz71_2, hfz71_3, hfz71_4⟩ := bF5 BK406.out; have hnb72 := NB409_407.out; have hnc72 := NB407_409.out; obtain ⟨hcz73_0, hcz73_1⟩ := bC2 BK409.out; obtain ⟨hfz73_0, hfz73_1⟩ := bF2 BK409.out; obtain ⟨Ao74, co74, eo74⟩ := Kd.V_slice HO_407000.out; subst eo74) | ((with_reducible refine gate_callee (f := 53) rfl ?_); refine goesL_ (some 60) rfl rfl Try.func53 (by kernel_rfl) rfl #[.agg #[.slice Ao74 x407000_1.length co74, .int .i64 x407001_1, .int .i64 x407002_1, .int .i64 x407003_1, .bool x407004_1], .int .i64 (Int.tmod t408 2), .string t411, .agg #[.int .i64 x410000_11, .int .i64 x410001_11]] rfl mS ?_; (with_reducible refine (foghornref04_write.calls kj11 (fun k_ => ((P0_0_ k_ ∨ w.heap.size ≤ k_) ∧ (k_ ≠ gb406 ∧ (k_ ≠ gb407 ∧ k_ ≠ gb409)))) _ _ x407000_1 x407001_1 x407002_1 x407003_1 x407004_1 (Int.tmod t408 2) t411 x410000_11 x410001_11 t424 t427 t428 t429 t430 t431 _ ?side1 A66.out).mono ?_); (case side1 => exact HO_407000.out); rintro e w75 ⟨v425, rfl, ho0, hb⟩; refine ⟨_, rfl, ?_⟩; have n0_ := aA (Kd.V_below (by (with_reducible repeat (first | apply Kd.V_alloc | apply Kd.V_drewN | apply Kd.V_drew)); exact HO_407000.out) hb); have n1_ := aA (Kd.V_lower (Kd.V_mono (ok' := fun k_ => (P0_0_ k_ ∨ w.heap.size ≤ k_) ∧ k_ ≠ gb406 ∧ k_ ≠ gb407 ∧ k_ ≠ gb409) ho0 (fun k_ hk_ => ⟨Or.elim hk_ (fun hs_ => hs_.1) (fun hn_ => (.inr (Nat.le_trans (below_size (mD3 GE406.out GE407.out GE409.out)) hn_))), Or.elim hk_ (fun hs_ => hs_.2.1) (fun hn_ => (Kd.freshB (g := gb406) (o := .cells #[.slice Ao74 x407000_1.length co74, .int .i64 x407001_1, .int .i64 x407002_1, .int .i64 x407003_1, .bool x407004_1] 26 (0, 0)) (mK BK406.out) k_ hn_)), Or.elim hk_ (fun hs_ => hs_.2.2.1) (fun hn_ => (Kd.freshB (g := gb407) (o := .cells #[.slice none 0 0, .int .i64 x408001_1, .int .i64 x408002_1, .int .i64 x408003_1, .bool x408004_1] 26 (0, 0)) (mK BK407.out) k_ hn_)), Or.elim hk_ (fun hs_ => hs_.2.2.2) (fun hn_ => (Kd.freshB (g := gb409) (o := .cells #[.int .i64 x410000_11, .int .i64 x410001_11] 45 (0, 0)) (mK BK409.out) k_ hn_))⟩)) (below_size (mD3 GE406.out GE407.out GE409.out))); have n2_ := aA (bB BK406.out hb); have n3_ := aA (bB BK407.out hb); have n4_ := aA (bB BK409.out hb); have n5_ := aA (below_step (mD3 GE406.out GE407.out GE409.out) hb); clear HO_407000 BK406 BK407 BK409 HB; have HO_407000 := n0_; have HO426 := n1_; have BK406 := n2_; have BK407 := n3_; have BK409 := n4_; have HB := n5_; clear n0_ n1_ n2_ n3_ n4_ n5_; (try clear hb); (try clear hb2); (try clear hk); (try clear hi); (try clear ho0)) | ((with_reducible refine gate_dst (N := 13) rfl ?_); refine box_event ?hg (N := 13) ?hd (cs := #[.slice none 0 0, .int .i64 0, .int .i64 0, .int .i64 0, .bool false]) (t := 26) ?hr ?_; (case hd => rfl); (case hg => rfl); (case hr => first | (go_simp; done) | (go_simp; rfl)); intro gb432 hg w76 hbox hb; have n0_ := aA (Kd.V_below (Kd.V_elderB (by (with_reducible repeat (first | apply Kd.V_alloc | apply Kd.V_drewN | apply Kd.V_drew)); exact HO_407000.out) gb432 (Nat.le_of_eq hg.symm)) hb); have n1_ := aA (Kd.V_below (Kd.V_elderB (by (with_reducible repeat (first | apply Kd.V_alloc | apply Kd.V_drewN | apply Kd.V_drew)); exact HO426.out) gb432 (Nat.le_of_eq hg.symm)) hb); have n2_ := aA (bB BK406.out hb); have n3_ := aA (bB BK407.out hb); have n4_ := aA (bB BK409.out hb); have n5_ := aA (below_step (mD3 GE406.out GE407.out GE409.out) hb); have n6_ := aA (hbox); have n7_ := aA ((bZ hg (mD3 GE406.out GE407.out GE409.out))); have n8_ := aA ((bZ hg (mD3 GE406.out GE407.out GE409.out))); have n9_ := aA ((bL hg BK406.out)); have n10_ := aA ((bG hg BK406.out)); have n11_ := aA ((bL hg BK407.out)); have n12_ := aA ((bG hg BK407.out)); have n13_ := aA ((bL hg BK409.out)); have n14_ := aA ((bG hg BK409.out)); clear HO_407000 HO426 BK406 BK407 BK409 HB; have HO_407000 := n0_; have HO426 := n1_; have BK406 := n2_; have BK407 := n3_; have BK409 := n4_; have HB := n5_; have BK432 := n6_; have GW432 := n7_; have GE432 := n8_; have NB406_432 := n9_; have NB432_406 := n10_; have NB407_432 := n11_; have NB432_407 := n12_; have NB409_432 := n13_; have NB432_409 := n14_; clear n0_ n1_ n2_ n3_ n4_ n5_ n6_ n7_ n8_ n9_ n10_ n11_ n12_ n13_ n14_ hb hbox hg; obtain ⟨Ao77, co77, eo77⟩ := Kd.V_slice HO426.out; subst eo77; have hnb78 := NB432_406.out; have hnc78 := NB406_432.out; have hnb79 := NB432_407.out; have hnc79 := NB407_432.out; have hnb80 := NB432_409.out; have hnc80 := NB409_432.out; obtain ⟨hcz81_0, hcz81_1, hcz81_2, hcz81_3, hcz81_4⟩ := bC5 BK432.out; obtain ⟨hfz81_0, hfz81_1, hfz81_2, hfz81_3, hfz81_4⟩ := bF5 BK432.out; obtain ⟨hcz82_0, hcz82_1, hcz82_2, hcz82_3, hcz82_4⟩ := bC5 BK406.out; obtain ⟨hfz82_0, hfz82_1, hfz82_2, hfz82_3, hfz82_4⟩ := bF5 BK406.out))
        go_roundg kj11
        case measure => have := HK1.out; have := HJ11.out; omega
        case rel => exact ⟨(wrap64 (x9_1 + 1)), (t424), (t427), (t428), (t429), (t430), (x408001_1), (x408002_1), (x408003_1), (x408004_1), (.slice Ao77 t424.length co77), (by first | rfl | (simp; done) | (simp [*]; done)), H', ⟨by have := HK1.out; have := HJ11.out; omega⟩, ⟨by (with_reducible repeat (first | apply Kd.V_alloc | apply Kd.V_drewN | apply Kd.V_drew)); exact Kd.V_mono (Kd.V_far (p := ⟨gb406, 4, none⟩) (Kd.V_far (p := ⟨gb406, 3, none⟩) (Kd.V_far (p := ⟨gb406, 2, none⟩) (Kd.V_far (p := ⟨gb406, 1, none⟩) (Kd.V_far (p := ⟨gb406, 0, none⟩) (Kd.V_far (p := ⟨gb432, 4, none⟩) (Kd.V_far (p := ⟨gb432, 3, none⟩) (Kd.V_far (p := ⟨gb432, 2, none⟩) (Kd.V_far (p := ⟨gb432, 1, none⟩) (Kd.V_far (p := ⟨gb432, 0, none⟩) (Kd.V_mono (Kd.V_mono HO426.out (fun k_ hk => (⟨hk, hk.2⟩ : _ ∧ k_ ≠ gb432))) (fun k_ hk => (⟨hk, hk.1.1.2.1⟩ : _ ∧ k_ ≠ gb406))) (fun _ hk => hk.1.2) (.slice Ao77 t424.length co77)) (fun _ hk => hk.1.2) (.int .i64 t427)) (fun _ hk => hk.1.2) (.int .i64 t428)) (fun _ hk => hk.1.2) (.int .i64 t429)) (fun _ hk => hk.1.2) (.bool t430)) (fun _ hk => hk.2) (.slice Ao77 t424.length co77)) (fun _ hk => hk.2) (.int .i64 t427)) (fun _ hk => hk.2) (.int .i64 t428)) (fun _ hk => hk.2) (.int .i64 t429)) (fun _ hk => hk.2) (.bool t430)) (fun _ hk => ⟨hk.1.1.1.1, ⟨hk.1.1.1.2.1, hk.1.1.1.2.2.1⟩⟩)⟩, ⟨by (with_reducible repeat (first | refine blk_drewN ?_ _ | refine blk_drew ?_ | refine blk_alloc ?_ _)); refine blk_put (cs := #[.slice Ao77 t424.length co77, .int .i64 t427, .int .i64 t428, .int .i64 t429, .bool x407004_1]) ?_ 4 _ rfl; (with_reducible repeat (first | refine blk_drewN ?_ _ | refine blk_drew ?_ | refine blk_alloc ?_ _)); refine blk_put (cs := #[.slice Ao77 t424.length co77, .int .i64 t427, .int .i64 t428, .int .i64 x407003_1, .bool x407004_1]) ?_ 3 _ rfl; (with_reducible repeat (first | refine blk_drewN ?_ _ | refine blk_drew ?_ | refine blk_alloc ?_ _)); refine blk_put (cs := #[.slice Ao77 t424.length co77, .int .i64 t427, .int .i64 x407002_1, .int .i64 x407003_1, .bool x407004_1]) ?_ 2 _ rfl; (with_reducible repeat (first | refine blk_drewN ?_ _ | refine blk_drew ?_ | refine blk_alloc ?_ _)); refine blk_put (cs := #[.slice Ao77 t424.length co77, .int .i64 x407001_1, .int .i64 x407002_1, .int .i64 x407003_1, .bool x407004_1]) ?_ 1 _ rfl; (with_reducible repeat (first | refine blk_drewN ?_ _ | refine blk_drew ?_ | refine blk_alloc ?_ _)); refine blk_put (cs := #[.slice Ao74 x407000_1.length co74, .int .i64 x407001_1, .int .i64 x407002_1, .int .i64 x407003_1, .bool x407004_1]) ?_ 0 _ rfl; (with_reducible repeat (first | refine blk_drewN ?_ _ | refine blk_drew ?_ | refine blk_alloc ?_ _)); refine blk_far ?_ NB406_432.out _; (with_reducible repeat (first | refine blk_drewN ?_ _ | refine blk_drew ?_ | refine blk_alloc ?_ _)); refine blk_far ?_ NB406_432.out _; (with_reducible repeat (first | refine blk_drewN ?_ _ | refine blk_drew ?_ | refine blk_alloc ?_ _)); refine blk_far ?_ NB406_432.out _; (with_reducible repeat (first | refine blk_drewN ?_ _ | refine blk_drew ?_ | refine blk_alloc ?_ _)); refine blk_far ?_ NB406_432.out _; (with_reducible repeat (first | refine blk_drewN ?_ _ | refine blk_drew ?_ | refine blk_alloc ?_ _)); refine blk_far ?_ NB406_432.out _; (with_reducible repeat (first | refine blk_drewN ?_ _ | refine blk_drew ?_ | refine blk_alloc ?_ _)); exact BK406.out⟩, ⟨by (with_reducible repeat (first | refine blk_drewN ?_ _ | refine blk_drew ?_ | refine blk_alloc ?_ _)); refine blk_far ?_ NB407_406.out _; (with_reducible repeat (first | refine blk_drewN ?_ _ | refine blk_drew ?_ | refine blk_alloc ?_ _)); refine blk_far ?_ NB407_406.out _; (with_reducible repeat (first | refine blk_drewN ?_ _ | refine blk_drew ?_ | refine blk_alloc ?_ _)); refine blk_far ?_ NB407_406.out _; (with_reducible repeat (first | refine blk_drewN ?_ _ | refine blk_drew ?_ | refine blk_alloc ?_ _)); refine blk_far ?_ NB407_406.out _; (with_reducible repeat (first | refine blk_drewN ?_ _ | refine blk_drew ?_ | refine blk_alloc ?_ _)); refine blk_far ?_ NB407_406.out _; (with_reducible repeat (first | refine blk_drewN ?_ _ | refine blk_drew ?_ | refine blk_alloc ?_ _)); refine blk_far ?_ NB407_432.out _; (with_reducible repeat (first | refine blk_drewN ?_ _ | refine blk_drew ?_ | refine blk_alloc ?_ _)); refine blk_far ?_ NB407_432.out _; (with_reducible repeat (first | refine blk_drewN ?_ _ | refine blk_drew ?_ | refine blk_alloc ?_ _)); refine blk_far ?_ NB407_432.out _; (with_reducible repeat (first | refine blk_drewN ?_ _ | refine blk_drew ?_ | refine blk_alloc ?_ _)); refine blk_far ?_ NB407_432.out _; (with_reducible repeat (first | refine blk_drewN ?_ _ | refine blk_drew ?_ | refine blk_alloc ?_ _)); refine blk_far ?_ NB407_432.out _; (with_reducible repeat (first | refine blk_drewN ?_ _ | refine blk_drew ?_ | refine blk_alloc ?_ _)); exact BK407.out⟩, ⟨by repeat (first | (with_reducible first | exact HB.out | apply below_alloc | apply pw_below_drewN | apply below_drew1 | refine below_set ?_ GE406.out | refine below_set ?_ GE407.out | refine below_set ?_ GE409.out | refine below_set ?_ GE432.out) | exact HB.out)⟩⟩
       ·rw [if_neg c67] at H
        have c67b0 : (t431 == 0) = false := beq_eq_false_iff_ne.mpr c67
        have c67b1 : (t431 != 0) = true := bne_iff_ne.mpr c67
        simp only [Option.some.injEq, Prod.mk.injEq] at H
        obtain ⟨rfl, rfl, rfl, rfl, rfl, rfl⟩ := H
        go_wp2_with (first | ((with_reducible refine gate_callee (f := 42) rfl ?_); refine goesL_ (some 37) rfl rfl Try.func42 (by kernel_rfl) rfl #[.int .i64 t408, .int .i64 0, .string (⟨#[]⟩ : ByteArray)] rfl mS ?_; (with_reducible refine (foghornref03_Seal.calls t408 0 (⟨#[]⟩ : ByteArray) t411 _ A22.out).mono ?_); rintro e w83 ⟨rfl, hb⟩; refine ⟨_, rfl, ?_⟩; have n0_ := aA (Kd.V_below (by (with_reducible repeat (first | apply Kd.V_alloc | apply Kd.V_drewN | apply Kd.V_drew)); exact HO_407000.out) hb); have n1_ := aA (bB BK406.out hb); have n2_ := aA (bB BK407.out hb); have n3_ := aA (bB BK409.out hb); have n4_ := aA (below_step (mD3 GE406.out GE407.out GE409.out) hb); clear HO_407000 BK406 BK407 BK409 HB; have HO_407000 := n0_; have BK406 := n1_; have BK407 := n2_; have BK409 := n3_; have HB := n4_; clear n0_ n1_ n2_ n3_ n4_; (try clear hb); (try clear hb2); (try clear hk); (try clear hi); have hnb84 := NB406_407.out; have hnc84 := NB407_406.out; have hnb85 := NB406_409.out; have hnc85 := NB409_406.out; obtain ⟨hcz86_0, hcz86_1, hcz86_2, hcz86_3, hcz86_4⟩ := bC5 BK406.out; obtain ⟨hfz86_0, hfz86_1, hfz86_2, hfz86_3, hfz86_4⟩ := bF5 BK406.out; have hnb87 := NB409_407.out; have hnc87 := NB407_409.out; obtain ⟨hcz88_0, hcz88_1⟩ := bC2 BK409.out; obtain ⟨hfz88_0, hfz88_1⟩ := bF2 BK409.out; obtain ⟨Ao89, co89, eo89⟩ := Kd.V_slice HO_407000.out; subst eo89) | ((with_reducible refine gate_callee (f := 53) rfl ?_); refine goesL_ (some 60) rfl rfl Try.func53 (by kernel_rfl) rfl #[.agg #[.slice Ao89 x407000_1.length co89, .int .i64 x407001_1, .int .i64 x407002_1, .int .i64 x407003_1, .bool x407004_1], .int .i64 (Int.tmod t408 2), .string t411, .agg #[.int .i64 x410000_11, .int .i64 x410001_11]] rfl mS ?_; (with_reducible refine (foghornref04_write.calls kj11 (fun k_ => ((P0_0_ k_ ∨ w.heap.size ≤ k_) ∧ (k_ ≠ gb406 ∧ (k_ ≠ gb407 ∧ k_ ≠ gb409)))) _ _ x407000_1 x407001_1 x407002_1 x407003_1 x407004_1 (Int.tmod t408 2) t411 x410000_11 x410001_11 t424 t427 t428 t429 t430 t431 _ ?side1 A66.out).mono ?_); (case side1 => exact HO_407000.out); rintro e w90 ⟨v425, rfl, ho0, hb⟩; refine ⟨_, rfl, ?_⟩; have n0_ := aA (Kd.V_below (by (with_reducible repeat (first | apply Kd.V_alloc | apply Kd.V_drewN | apply Kd.V_drew)); exact HO_407000.out) hb); have n1_ := aA (Kd.V_lower (Kd.V_mono (ok' := fun k_ => (P0_0_ k_ ∨ w.heap.size ≤ k_) ∧ k_ ≠ gb406 ∧ k_ ≠ gb407 ∧ k_ ≠ gb409) ho0 (fun k_ hk_ => ⟨Or.elim hk_ (fun hs_ => hs_.1) (fun hn_ => (.inr (Nat.le_trans (below_size (mD3 GE406.out GE407.out GE409.out)) hn_))), Or.elim hk_ (fun hs_ => hs_.2.1) (fun hn_ => (Kd.freshB (g := gb406) (o := .cells #[.slice Ao89 x407000_1.length co89, .int .i64 x407001_1, .int .i64 x407002_1, .int .i64 x407003_1, .bool x407004_1] 26 (0, 0)) (mK BK406.out) k_ hn_)), Or.elim hk_ (fun hs_ => hs_.2.2.1) (fun hn_ => (Kd.freshB (g := gb407) (o := .cells #[.slice none 0 0, .int .i64 x408001_1, .int .i64 x408002_1, .int .i64 x408003_1, .bool x408004_1] 26 (0, 0)) (mK BK407.out) k_ hn_)), Or.elim hk_ (fun hs_ => hs_.2.2.2) (fun hn_ => (Kd.freshB (g := gb409) (o := .cells #[.int .i64 x410000_11, .int .i64 x410001_11] 45 (0, 0)) (mK BK409.out) k_ hn_))⟩)) (below_size (mD3 GE406.out GE407.out GE409.out))); have n2_ := aA (bB BK406.out hb); have n3_ := aA (bB BK407.out hb); have n4_ := aA (bB BK409.out hb); have n5_ := aA (below_step (mD3 GE406.out GE407.out GE409.out) hb); clear HO_407000 BK406 BK407 BK409 HB; have HO_407000 := n0_; have HO426 := n1_; have BK406 := n2_; have BK407 := n3_; have BK409 := n4_; have HB := n5_; clear n0_ n1_ n2_ n3_ n4_ n5_; (try clear hb); (try clear hb2); (try clear hk); (try clear hi); (try clear ho0)) | ((with_reducible refine gate_dst (N := 13) rfl ?_); refine box_event ?hg (N := 13) ?hd (cs := #[.slice none 0 0, .int .i64 0, .int .i64 0, .int .i64 0, .bool false]) (t := 26) ?hr ?_; (case hd => rfl); (case hg => rfl); (case hr => first | (go_simp; done) | (go_simp; rfl)); intro gb432 hg w91 hbox hb; have n0_ := aA (Kd.V_below (Kd.V_elderB (by (with_reducible repeat (first | apply Kd.V_alloc | apply Kd.V_drewN | apply Kd.V_drew)); exact HO_407000.out) gb432 (Nat.le_of_eq hg.symm)) hb); have n1_ := aA (Kd.V_below (Kd.V_elderB (by (with_reducible repeat (first | apply Kd.V_alloc | apply Kd.V_drewN | apply Kd.V_drew)); exact HO426.out) gb432 (Nat.le_of_eq hg.symm)) hb); have n2_ := aA (bB BK406.out hb); have n3_ := aA (bB BK407.out hb); have n4_ := aA (bB BK409.out hb); have n5_ := aA (below_step (mD3 GE406.out GE407.out GE409.out) hb); have n6_ := aA (hbox); have n7_ := aA ((bZ hg (mD3 GE406.out GE407.out GE409.out))); have n8_ := aA ((bZ hg (mD3 GE406.out GE407.out GE409.out))); have n9_ := aA ((bL hg BK406.out)); have n10_ := aA ((bG hg BK406.out)); have n11_ := aA ((bL hg BK407.out)); have n12_ := aA ((bG hg BK407.out)); have n13_ := aA ((bL hg BK409.out)); have n14_ := aA ((bG hg BK409.out)); clear HO_407000 HO426 BK406 BK407 BK409 HB; have HO_407000 := n0_; have HO426 := n1_; have BK406 := n2_; have BK407 := n3_; have BK409 := n4_; have HB := n5_; have BK432 := n6_; have GW432 := n7_; have GE432 := n8_; have NB406_432 := n9_; have NB432_406 := n10_; have NB407_432 := n11_; have NB432_407 := n12_; have NB409_432 := n13_; have NB432_409 := n14_; clear n0_ n1_ n2_ n3_ n4_ n5_ n6_ n7_ n8_ n9_ n10_ n11_ n12_ n13_ n14_ hb hbox hg; obtain ⟨Ao92, co92, eo92⟩ := Kd.V_slice HO426.out; subst eo92; have hnb93 := NB432_406.out; have hnc93 := NB406_432.out; have hnb94 := NB432_407.out; have hnc94 := NB407_432.out; have hnb95 := NB432_409.out; have hnc95 := NB409_432.out; obtain ⟨hcz96_0, hcz96_1, hcz96_2, hcz96_3, hcz96_4⟩ := bC5 BK432.out; obtain ⟨hfz96_0, hfz96_1, hfz96_2, hfz96_3, hfz96_4⟩ := bF5 BK432.out; obtain ⟨hcz97_0, hcz97_1, hcz97_2, hcz97_3, hcz97_4⟩ := bC5 BK406.out; obtain ⟨hfz97_0, hfz97_1, hfz97_2, hfz97_3, hfz97_4⟩ := bF5 BK406.out; obtain ⟨hcz98_0, hcz98_1, hcz98_2, hcz98_3, hcz98_4⟩ := bC5 BK407.out; obtain ⟨hfz98_0, hfz98_1, hfz98_2, hfz98_3, hfz98_4⟩ := bF5 BK407.out))
        refine bodyPost_ret (results_ct rfl _ _ gb407 26 #[.slice Ao92 t424.length co92, .int .i64 t427, .int .i64 t428, .int .i64 t429, .bool t430] (0, 0) _ rfl (by (with_reducible repeat (first | refine blk_drewN ?_ _ | refine blk_drew ?_ | refine blk_alloc ?_ _)); refine blk_put (cs := #[.slice Ao92 t424.length co92, .int .i64 t427, .int .i64 t428, .int .i64 t429, .bool x408004_1]) ?_ 4 _ rfl; (with_reducible repeat (first | refine blk_drewN ?_ _ | refine blk_drew ?_ | refine blk_alloc ?_ _)); refine blk_put (cs := #[.slice Ao92 t424.length co92, .int .i64 t427, .int .i64 t428, .int .i64 x408003_1, .bool x408004_1]) ?_ 3 _ rfl; (with_reducible repeat (first | refine blk_drewN ?_ _ | refine blk_drew ?_ | refine blk_alloc ?_ _)); refine blk_put (cs := #[.slice Ao92 t424.length co92, .int .i64 t427, .int .i64 x408002_1, .int .i64 x408003_1, .bool x408004_1]) ?_ 2 _ rfl; (with_reducible repeat (first | refine blk_drewN ?_ _ | refine blk_drew ?_ | refine blk_alloc ?_ _)); refine blk_put (cs := #[.slice Ao92 t424.length co92, .int .i64 x408001_1, .int .i64 x408002_1, .int .i64 x408003_1, .bool x408004_1]) ?_ 1 _ rfl; (with_reducible repeat (first | refine blk_drewN ?_ _ | refine blk_drew ?_ | refine blk_alloc ?_ _)); refine blk_put (cs := #[.slice none 0 0, .int .i64 x408001_1, .int .i64 x408002_1, .int .i64 x408003_1, .bool x408004_1]) ?_ 0 _ rfl; (with_reducible repeat (first | refine blk_drewN ?_ _ | refine blk_drew ?_ | refine blk_alloc ?_ _)); refine blk_far ?_ NB407_406.out _; (with_reducible repeat (first | refine blk_drewN ?_ _ | refine blk_drew ?_ | refine blk_alloc ?_ _)); refine blk_far ?_ NB407_406.out _; (with_reducible repeat (first | refine blk_drewN ?_ _ | refine blk_drew ?_ | refine blk_alloc ?_ _)); refine blk_far ?_ NB407_406.out _; (with_reducible repeat (first | refine blk_drewN ?_ _ | refine blk_drew ?_ | refine blk_alloc ?_ _)); refine blk_far ?_ NB407_406.out _; (with_reducible repeat (first | refine blk_drewN ?_ _ | refine blk_drew ?_ | refine blk_alloc ?_ _)); refine blk_far ?_ NB407_406.out _; (with_reducible repeat (first | refine blk_drewN ?_ _ | refine blk_drew ?_ | refine blk_alloc ?_ _)); refine blk_far ?_ NB407_432.out _; (with_reducible repeat (first | refine blk_drewN ?_ _ | refine blk_drew ?_ | refine blk_alloc ?_ _)); refine blk_far ?_ NB407_432.out _; (with_reducible repeat (first | refine blk_drewN ?_ _ | refine blk_drew ?_ | refine blk_alloc ?_ _)); refine blk_far ?_ NB407_432.out _; (with_reducible repeat (first | refine blk_drewN ?_ _ | refine blk_drew ?_ | refine blk_alloc ?_ _)); refine blk_far ?_ NB407_432.out _; (with_reducible repeat (first | refine blk_drewN ?_ _ | refine blk_drew ?_ | refine blk_alloc ?_ _)); refine blk_far ?_ NB407_432.out _; (with_reducible repeat (first | refine blk_drewN ?_ _ | refine blk_drew ?_ | refine blk_alloc ?_ _)); exact BK407.out) Try.underlying26 rfl (by kernel_rfl)) rfl ?_
        exact ⟨_, by first | rfl | (simp [errW_none, errW_some] <;> rfl) | (simp [*, errW_none, errW_some] <;> rfl), by (with_reducible repeat (first | apply Kd.V_alloc | apply Kd.V_drewN | apply Kd.V_drew)); exact Kd.V_mono (Kd.V_far (p := ⟨gb407, 4, none⟩) (Kd.V_far (p := ⟨gb407, 3, none⟩) (Kd.V_far (p := ⟨gb407, 2, none⟩) (Kd.V_far (p := ⟨gb407, 1, none⟩) (Kd.V_far (p := ⟨gb407, 0, none⟩) (Kd.V_far (p := ⟨gb406, 4, none⟩) (Kd.V_far (p := ⟨gb406, 3, none⟩) (Kd.V_far (p := ⟨gb406, 2, none⟩) (Kd.V_far (p := ⟨gb406, 1, none⟩) (Kd.V_far (p := ⟨gb406, 0, none⟩) (Kd.V_far (p := ⟨gb432, 4, none⟩) (Kd.V_far (p := ⟨gb432, 3, none⟩) (Kd.V_far (p := ⟨gb432, 2, none⟩) (Kd.V_far (p := ⟨gb432, 1, none⟩) (Kd.V_far (p := ⟨gb432, 0, none⟩) (Kd.V_mono (Kd.V_mono (Kd.V_mono HO426.out (fun k_ hk => (⟨hk, hk.2⟩ : _ ∧ k_ ≠ gb432))) (fun k_ hk => (⟨hk, hk.1.1.2.1⟩ : _ ∧ k_ ≠ gb406))) (fun k_ hk => (⟨hk, hk.1.1.1.2.2.1⟩ : _ ∧ k_ ≠ gb407))) (fun _ hk => hk.1.1.2) (.slice Ao92 t424.length co92)) (fun _ hk => hk.1.1.2) (.int .i64 t427)) (fun _ hk => hk.1.1.2) (.int .i64 t428)) (fun _ hk => hk.1.1.2) (.int .i64 t429)) (fun _ hk => hk.1.1.2) (.bool t430)) (fun _ hk => hk.1.2) (.slice Ao92 t424.length co92)) (fun _ hk => hk.1.2) (.int .i64 t427)) (fun _ hk => hk.1.2) (.int .i64 t428)) (fun _ hk => hk.1.2) (.int .i64 t429)) (fun _ hk => hk.1.2) (.bool t430)) (fun _ hk => hk.2) (.slice Ao92 t424.length co92)) (fun _ hk => hk.2) (.int .i64 t427)) (fun _ hk => hk.2) (.int .i64 t428)) (fun _ hk => hk.2) (.int .i64 t429)) (fun _ hk => hk.2) (.bool t430)) (fun _ hk => hk.1.1.1.1.1), by repeat (first | (with_reducible first | exact HB.out | apply below_alloc | apply pw_below_drewN | apply below_drew1 | refine below_set ?_ GE406.out | refine below_set ?_ GE407.out | refine below_set ?_ GE409.out | refine below_set ?_ GE432.out) | exact HB.out)⟩
   ·rw [if_neg c11] at H
    have c11b0 : decide (x9_1 ≤ (l1.length : Int)) = false := decide_eq_false c11
    clear c11
    simp only [Option.some.injEq, Prod.mk.injEq] at H
    obtain ⟨rfl, rfl, rfl, rfl, rfl, rfl⟩ := H
    have hnb99 := NB406_407.out
    have hnc99 := NB407_406.out
    obtain ⟨hcz100_0, hcz100_1, hcz100_2, hcz100_3, hcz100_4⟩ := bC5 BK406.out
    obtain ⟨hfz100_0, hfz100_1, hfz100_2, hfz100_3, hfz100_4⟩ := bF5 BK406.out
    obtain ⟨Ao101, co101, eo101⟩ := Kd.V_slice HO_407000.out
    subst eo101
    obtain ⟨hcz102_0, hcz102_1, hcz102_2, hcz102_3, hcz102_4⟩ := bC5 BK407.out
    obtain ⟨hfz102_0, hfz102_1, hfz102_2, hfz102_3, hfz102_4⟩ := bF5 BK407.out
    go_wp2
    refine bodyPost_ret (results_ct rfl _ _ gb407 26 #[.slice Ao101 x407000_1.length co101, .int .i64 t408, .int .i64 (l1.length : Int), .int .i64 x407003_1, .bool x407004_1] (0, 0) _ rfl (by (with_reducible repeat (first | refine blk_drewN ?_ _ | refine blk_drew ?_ | refine blk_alloc ?_ _)); refine blk_put (cs := #[.slice Ao101 x407000_1.length co101, .int .i64 t408, .int .i64 (l1.length : Int), .int .i64 x407003_1, .bool x408004_1]) ?_ 4 _ rfl; (with_reducible repeat (first | refine blk_drewN ?_ _ | refine blk_drew ?_ | refine blk_alloc ?_ _)); refine blk_put (cs := #[.slice Ao101 x407000_1.length co101, .int .i64 t408, .int .i64 (l1.length : Int), .int .i64 x408003_1, .bool x408004_1]) ?_ 3 _ rfl; (with_reducible repeat (first | refine blk_drewN ?_ _ | refine blk_drew ?_ | refine blk_alloc ?_ _)); refine blk_put (cs := #[.slice Ao101 x407000_1.length co101, .int .i64 t408, .int .i64 x408002_1, .int .i64 x408003_1, .bool x408004_1]) ?_ 2 _ rfl; (with_reducible repeat (first | refine blk_drewN ?_ _ | refine blk_drew ?_ | refine blk_alloc ?_ _)); refine blk_put (cs := #[.slice Ao101 x407000_1.length co101, .int .i64 x408001_1, .int .i64 x408002_1, .int .i64 x408003_1, .bool x408004_1]) ?_ 1 _ rfl; (with_reducible repeat (first | refine blk_drewN ?_ _ | refine blk_drew ?_ | refine blk_alloc ?_ _)); refine blk_put (cs := #[.slice none 0 0, .int .i64 x408001_1, .int .i64 x408002_1, .int .i64 x408003_1, .bool x408004_1]) ?_ 0 _ rfl; (with_reducible repeat (first | refine blk_drewN ?_ _ | refine blk_drew ?_ | refine blk_alloc ?_ _)); refine blk_far ?_ NB407_406.out _; (with_reducible repeat (first | refine blk_drewN ?_ _ | refine blk_drew ?_ | refine blk_alloc ?_ _)); refine blk_far ?_ NB407_406.out _; (with_reducible repeat (first | refine blk_drewN ?_ _ | refine blk_drew ?_ | refine blk_alloc ?_ _)); exact BK407.out) Try.underlying26 rfl (by kernel_rfl)) rfl ?_
    exact ⟨_, by first | rfl | (simp [errW_none, errW_some] <;> rfl) | (simp [*, errW_none, errW_some] <;> rfl), by (with_reducible repeat (first | apply Kd.V_alloc | apply Kd.V_drewN | apply Kd.V_drew)); exact Kd.V_mono (Kd.V_far (p := ⟨gb407, 4, none⟩) (Kd.V_far (p := ⟨gb407, 3, none⟩) (Kd.V_far (p := ⟨gb407, 2, none⟩) (Kd.V_far (p := ⟨gb407, 1, none⟩) (Kd.V_far (p := ⟨gb407, 0, none⟩) (Kd.V_far (p := ⟨gb406, 2, none⟩) (Kd.V_far (p := ⟨gb406, 1, none⟩) (Kd.V_mono (Kd.V_mono HO_407000.out (fun k_ hk => (⟨hk, hk.2.1⟩ : _ ∧ k_ ≠ gb406))) (fun k_ hk => (⟨hk, hk.1.2.2⟩ : _ ∧ k_ ≠ gb407))) (fun _ hk => hk.1.2) (.int .i64 t408)) (fun _ hk => hk.1.2) (.int .i64 (l1.length : Int))) (fun _ hk => hk.2) (.slice Ao101 x407000_1.length co101)) (fun _ hk => hk.2) (.int .i64 t408)) (fun _ hk => hk.2) (.int .i64 (l1.length : Int))) (fun _ hk => hk.2) (.int .i64 x407003_1)) (fun _ hk => hk.2) (.bool x407004_1)) (fun _ hk => hk.1.1.1), by repeat (first | (with_reducible first | exact HB.out | apply below_alloc | apply pw_below_drewN | apply below_drew1 | refine below_set ?_ GE406.out | refine below_set ?_ GE407.out) | exact HB.out)⟩
end Go.Proofs.YtopaddpclipnjaaQ.P
