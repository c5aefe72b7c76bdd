/- Part 3 of a proof: contracts and plain laws of what the statement reaches. No condition. -/
import Derived.Test.YtopaddpclipnjaaChecked
import Derived.LoopTactic
import Derived.Outline
import Derived.Laws.RangeAny
import Derived.Shelf.Abstract
import Derived.Defers
import Derived.Recover
import Derived.WalkLawsBesides
import Derived.Laws.EntriesVeiled
import Derived.Test.YtopaddpclipnjaaStoreBootsz1
import Derived.Test.YtopaddpclipnjaaStoreBootsz2
set_option linter.unusedVariables false
set_option linter.unusedSimpArgs false
namespace Go.Proofs.YtopaddpclipnjaaQ.P
open Go.RowKit Go.Proofs.YtopaddpclipnjaaW.PrintWords Go.Proofs.YtopaddpclipnjaaW.PrintLast Go.Proofs.YtopaddpclipnjaaW.PrintMore
attribute [local go_sem] max2_int min2_int max_two min_two max_three min_three max_four min_four
def store_Right.f (l0_0 : List ByteArray) (a0_1 : Int) (a0_2 : Int) (a0_3 : Int) (a0_4 : Bool) : Option (Bool) := (store_hasLog.f l0_0).bind fun t152 => (if t152 = true then ((store_in.f a0_1 1 250).bind fun t153 => (if t153 = true then ((store_area.f l0_0).bind fun t154 => ((store_in.f a0_2 0 t154).bind fun t155 => (if t155 = true then ((store_in.f a0_3 a0_1 250).bind fun t156 => (some t156)) else (some false)))) else (some false))) else (some false))
def store_Right.T1 : Bool × List (List Nat × List Nat) := (true, [([], []), ([0], [0]), ([1], [1]), ([2, 2], [2]), ([3], [3]), ([4, 3], [3, 4]), ([5, 3, 3], [3, 5]), ([3, 6], [3, 6]), ([7, 6], [7]), ([8], [8]), ([9, 8], [8, 9]), ([8], [8]), ([11, 8], [8, 11]), ([12, 8, 8], [8, 12]), ([10, 13, 13, 8], [8, 10, 13]), ([8, 14], [8, 14]), ([15, 14], [15]), ([16], [16]), ([17, 16], [16, 17]), ([16], [16]), ([19, 16], [16, 19]), ([18, 20, 16, 16], [16, 18, 20]), ([16, 21], [16, 21]), ([22, 21, 0, 1, 2, 3, 4, 5, 6, 7, 8, 9, 10, 11, 12, 13, 14, 15, 16, 17, 18, 19, 20, 21, 22], [22])])
def store_Right.B1 : List Nat := [0, 1, 3, 7, 15, 31, 63, 127, 255, 511, 1023, 511, 2559, 6655, 16383, 32767, 65535, 131071, 262143, 131071, 655359, 2097151, 4194303, 8388607]
theorem store_Right.tab1 : rtab .any (opsOf Try.f13 1) = store_Right.T1 := by kernel_rfl
theorem store_Right.bits1 : waitsOk store_Right.T1.2 store_Right.B1 = true := by kernel_rfl
set_option maxHeartbeats 8000000 in
set_option maxRecDepth 100000 in
theorem store_Right.calls (A0_0 : Option Addr) (c0_0 : Nat) (l0_0 : List ByteArray) (a0_1 : Int) (a0_2 : Int) (a0_3 : Int) (a0_4 : Bool) (r : Bool) (w : World) (hr0_0 : Kd.C Kd.string w A0_0 l0_0.length l0_0) (hc0_0 : l0_0.length ≤ c0_0) (h : store_Right.f l0_0 a0_1 a0_2 a0_3 a0_4 = some r) :
  Calls Try.prog 13 #[.agg #[.slice A0_0 l0_0.length c0_0, .int .i64 a0_1, .int .i64 a0_2, .int .i64 a0_3, .bool a0_4]] w fun e w' => e = .returned (.bool r) ∧ Below w.heap.size w w' := by
 have hu26 := Try.underlying26
 have hu24 := Try.underlying24
 have HR0_0 := aA hr0_0
 have HC0_0 := aA hc0_0
 clear hr0_0 hc0_0
 have HB := aA (Below.refl w.heap.size w)
 have H : ((store_hasLog.f l0_0).bind fun t152 => (if t152 = true then ((store_in.f a0_1 1 250).bind fun t153 => (if t153 = true then ((store_area.f l0_0).bind fun t154 => ((store_in.f a0_2 0 t154).bind fun t155 => (if t155 = true then ((store_in.f a0_3 a0_1 250).bind fun t156 => (some t156)) else (some false)))) else (some false))) else (some false))) = some r := h
 clear h
 replace H := Option.bind_eq_some_iff.mp H
 obtain ⟨t152, A20, H⟩ := H
 have A2 := aA A20
 clear A20
 by_cases c3 : t152 = true
 ·subst c3
  have H1 : ((store_in.f a0_1 1 250).bind fun t153 => (if t153 = true then ((store_area.f l0_0).bind fun t154 => ((store_in.f a0_2 0 t154).bind fun t155 => (if t155 = true then ((store_in.f a0_3 a0_1 250).bind fun t156 => (some t156)) else (some false)))) else (some false))) = some r := by rw [if_pos rfl] at H; exact H
  clear H
  have H := H1
  clear H1
  replace H := Option.bind_eq_some_iff.mp H
  obtain ⟨t153, A40, H⟩ := H
  have A4 := aA A40
  clear A40
  by_cases c5 : t153 = true
  ·subst c5
   have H1 : ((store_area.f l0_0).bind fun t154 => ((store_in.f a0_2 0 t154).bind fun t155 => (if t155 = true then ((store_in.f a0_3 a0_1 250).bind fun t156 => (some t156)) else (some false)))) = some r := by rw [if_pos rfl] at H; exact H
   clear H
   have H := H1
   clear H1
   replace H := Option.bind_eq_some_iff.mp H
   obtain ⟨t154, A60, H⟩ := H
   have A6 := aA A60
   clear A60
   replace H := Option.bind_eq_some_iff.mp H
   obtain ⟨t155, A70, H⟩ := H
   have A7 := aA A70
   clear A70
   by_cases c8 : t155 = true
   ·subst c8
    have H1 : ((store_in.f a0_3 a0_1 250).bind fun t156 => (some t156)) = some r := by rw [if_pos rfl] at H; exact H
    clear H
    have H := H1
    clear H1
    replace H := Option.bind_eq_some_iff.mp H
    obtain ⟨t156, A90, H⟩ := H
    have A9 := aA A90
    clear A90
    obtain rfl := Option.some.inj H
    go_enter Try.func13, Try.ntmps13
    try go_wp2_with (first | ((with_reducible refine gate_dst (N := 1) rfl ?_); refine box_event ?hg (N := 1) ?hd (cs := #[.slice A0_0 l0_0.length c0_0, .int .i64 a0_1, .int .i64 a0_2, .int .i64 a0_3, .bool a0_4]) (t := 26) ?hr ?_; (case hd => rfl); (case hg => rfl); (case hr => first | (go_simp; done) | (go_simp; rfl)); intro gb151 hg w10 hbox hb; have n0_ := aA (below_step mB hb); have n1_ := aA (hbox); have n2_ := aA ((bZ hg mB)); have n3_ := aA ((bZ hg mB)); clear HB; have HB := n0_; have BK151 := n1_; have GW151 := n2_; have GE151 := n3_; clear n0_ n1_ n2_ n3_ hb hbox hg))
    have n0_ := aA (blk_drew BK151.out)
    have n1_ := aA (below_drew1 HB.out)
    clear BK151
    clear HB
    have BK151 := n0_
    have HB := n1_
    clear n0_ n1_
    refine start_ (n := 24) (S := fun w' => w'.cell? ⟨gb151, 0, none⟩ = some (.slice A0_0 l0_0.length c0_0) ∧ w'.cell? ⟨gb151, 1, none⟩ = some (.int .i64 a0_1) ∧ w'.cell? ⟨gb151, 2, none⟩ = some (.int .i64 a0_2) ∧ w'.cell? ⟨gb151, 3, none⟩ = some (.int .i64 a0_3) ∧ w'.cell? ⟨gb151, 4, none⟩ = some (.bool a0_4)) (ds := []) #[false, false, false, false, false, false, false, false, false, false, false, false, false, false, false, false, false, false, false, false, false, false, false, false] (by kernel_rfl) rfl rfl (bC5 BK151.out) (fun hHeld => ?_); refine with_tabW store_Right.tab1 store_Right.bits1 (fun HT_ HW_ => ?_)
    generalize w10.drew = w11 at BK151 HB hHeld ⊢
    refine pure_ (i := 0) (N := some 3) (v := ?_) (a' := ?_) #[true, false, false, false, false, false, false, false, false, false, false, false, false, false, false, false, false, false, false, false, false, false, false, false] rfl rfl (any_of HT_.out (by kernel_rfl)) (fun _ _ _ h => h) (Or.inl ⟨by rfl, ?_⟩) ?_ ?_
    rotate_left
    ·intro w'
     go_simp
     with_reducible rfl
    rotate_left
    ·exact mP
    refine take_ (i := 1) (N := some 4) (v := ?_) (a' := ?_) #[true, true, false, false, false, false, false, false, false, false, false, false, false, false, false, false, false, false, false, false, false, false, false, false] rfl rfl (take_ofW HT_.out HW_.out (by kernel_rfl)) (fun _ _ _ h => h) (Or.inl ⟨by rfl, ?_⟩) hHeld ?_ ?_
    rotate_left
    ·rintro w' ⟨s0, s1, s2, s3, s4⟩
     go_simp
     with_reducible rfl
    rotate_left
    ·exact mP
    refine one_ (i := 2) (N := some 5) #[true, true, true, false, false, false, false, false, false, false, false, false, false, false, false, false, false, false, false, false, false, false, false, false] rfl rfl (one_of HT_.out (by kernel_rfl)) (by decide) (fun K hK => ?_)
    refine goes_ Try.func35 (by kernel_rfl) rfl #[.agg #[.slice A0_0 l0_0.length c0_0]] (by rfl) rfl rfl mS ?_
    with_reducible refine (store_hasLog.calls _ _ l0_0 true _ ?side1 ?side2 A2.out).mono ?_
    (case side1 => exact mC ((Kd.C_below HR0_0.out HB.out)))
    (case side2 => exact HC0_0.out)
    rintro e w12 ⟨rfl, hb⟩
    refine ⟨_, rfl, ?_⟩
    have n0_ := aA (bB BK151.out hb)
    have n1_ := aA (below_step (mD1 GE151.out) hb)
    clear BK151
    clear HB
    have BK151 := n0_
    have HB := n1_
    clear n0_ n1_
    (try clear hb)
    (try clear hb2)
    (try clear hk)
    (try clear hi)
    refine hK.out _ _ (bC5 BK151.out) (fun hHeld => ?_)
    clear hK K
    refine norm_ (a' := ?_) ?_ ?_
    rotate_left
    ·show Act.put _ (some 5) _ = _
     simp only [Act.put, List.setIfInBounds_toArray, List.set_cons_zero, List.set_cons_succ, i64_w, i32_w]
     rfl
    refine pure_ (i := 3) (N := some 6) (v := ?_) (a' := ?_) #[true, true, true, true, false, false, false, false, false, false, false, false, false, false, false, false, false, false, false, false, false, false, false, false] rfl rfl (any_of HT_.out (by kernel_rfl)) (fun _ _ _ h => h) (Or.inl ⟨by rfl, ?_⟩) ?_ ?_
    rotate_left
    ·intro w'
     go_simp
     with_reducible rfl
    rotate_left
    ·exact mP
    refine pure_ (i := 4) (N := some 7) (v := ?_) (a' := ?_) #[true, true, true, true, true, false, false, false, false, false, false, false, false, false, false, false, false, false, false, false, false, false, false, false] rfl rfl (any_of HT_.out (by kernel_rfl)) (fun _ _ _ h => h) (Or.inl ⟨by rfl, ?_⟩) ?_ ?_
    rotate_left
    ·intro w'
     go_simp
     with_reducible rfl
    rotate_left
    ·exact mP
    refine take_ (i := 5) (N := some 8) (v := ?_) (a' := ?_) #[true, true, true, true, true, true, false, false, false, false, false, false, false, false, false, false, false, false, false, false, false, false, false, false] rfl rfl (take_ofW HT_.out HW_.out (by kernel_rfl)) (fun _ _ _ h => h) (Or.inl ⟨by rfl, ?_⟩) hHeld ?_ ?_
    rotate_left
    ·rintro w' ⟨s0, s1, s2, s3, s4⟩
     go_simp
     with_reducible rfl
    rotate_left
    ·exact mP
    refine one_ (i := 6) (N := some 9) #[true, true, true, true, true, true, true, false, false, false, false, false, false, false, false, false, false, false, false, false, false, false, false, false] rfl rfl (one_of HT_.out (by kernel_rfl)) (by decide) (fun K hK => ?_)
    refine goes_ Try.func39 (by kernel_rfl) rfl #[.int .i64 a0_1, .int .i64 1, .int .i64 250] (by rfl) rfl rfl mS ?_
    with_reducible refine (store_in.calls a0_1 1 250 true _ A4.out).mono ?_
    rintro e w' ⟨rfl, ⟨nd, rfl⟩⟩
    refine ⟨_, rfl, ?_⟩
    refine hK.out _ _ (bC5 BK151.out) (fun hHeld => ?_)
    clear hK K
    refine norm_ (a' := ?_) ?_ ?_
    rotate_left
    ·show Act.put _ (some 9) _ = _
     simp only [Act.put, List.setIfInBounds_toArray, List.set_cons_zero, List.set_cons_succ, i64_w, i32_w]
     rfl
    refine pure_ (i := 7) (N := some 10) (v := ?_) (a' := ?_) #[true, true, true, true, true, true, true, true, false, false, false, false, false, false, false, false, false, false, false, false, false, false, false, false] rfl rfl (any_of HT_.out (by kernel_rfl)) (fun _ _ _ h => h) (Or.inl ⟨by rfl, ?_⟩) ?_ ?_
    rotate_left
    ·intro w'
     go_simp
     with_reducible rfl
    rotate_left
    ·exact mP
    refine pure_ (i := 8) (N := some 11) (v := ?_) (a' := ?_) #[true, true, true, true, true, true, true, true, true, false, false, false, false, false, false, false, false, false, false, false, false, false, false, false] rfl rfl (any_of HT_.out (by kernel_rfl)) (fun _ _ _ h => h) (Or.inl ⟨by rfl, ?_⟩) ?_ ?_
    rotate_left
    ·intro w'
     go_simp
     with_reducible rfl
    rotate_left
    ·exact mP
    refine pure_ (i := 9) (N := some 12) (v := ?_) (a' := ?_) #[true, true, true, true, true, true, true, true, true, true, false, false, false, false, false, false, false, false, false, false, false, false, false, false] rfl rfl (any_of HT_.out (by kernel_rfl)) (fun _ _ _ h => h) (Or.inl ⟨by rfl, ?_⟩) ?_ ?_
    rotate_left
    ·intro w'
     go_simp
     with_reducible rfl
    rotate_left
    ·exact mP
    refine pure_ (i := 11) (N := some 14) (v := ?_) (a' := ?_) #[true, true, true, true, true, true, true, true, true, true, false, true, false, false, false, false, false, false, false, false, false, false, false, false] rfl rfl (any_of HT_.out (by kernel_rfl)) (fun _ _ _ h => h) (Or.inl ⟨by rfl, ?_⟩) ?_ ?_
    rotate_left
    ·intro w'
     go_simp
     with_reducible rfl
    rotate_left
    ·exact mP
    refine take_ (i := 10) (N := some 13) (v := ?_) (a' := ?_) #[true, true, true, true, true, true, true, true, true, true, true, true, false, false, false, false, false, false, false, false, false, false, false, false] rfl rfl (take_ofW HT_.out HW_.out (by kernel_rfl)) (fun _ _ _ h => h) (Or.inl ⟨by rfl, ?_⟩) hHeld ?_ ?_
    rotate_left
    ·rintro w' ⟨s0, s1, s2, s3, s4⟩
     go_simp
     with_reducible rfl
    rotate_left
    ·exact mP
    refine take_ (i := 12) (N := some 15) (v := ?_) (a' := ?_) #[true, true, true, true, true, true, true, true, true, true, true, true, true, false, false, false, false, false, false, false, false, false, false, false] rfl rfl (take_ofW HT_.out HW_.out (by kernel_rfl)) (fun _ _ _ h => h) (Or.inl ⟨by rfl, ?_⟩) hHeld ?_ ?_
    rotate_left
    ·rintro w' ⟨s0, s1, s2, s3, s4⟩
     go_simp
     with_reducible rfl
    rotate_left
    ·exact mP
    refine one_ (i := 13) (N := some 16) #[true, true, true, true, true, true, true, true, true, true, true, true, true, true, false, false, false, false, false, false, false, false, false, false] rfl rfl (one_of HT_.out (by kernel_rfl)) (by decide) (fun K hK => ?_)
    refine goes_ Try.func37 (by kernel_rfl) rfl #[.agg #[.slice A0_0 l0_0.length c0_0]] (by rfl) rfl rfl mS ?_
    with_reducible refine (store_area.calls _ _ l0_0 t154 _ ?side1 ?side2 A6.out).mono ?_
    (case side1 => exact mC ((Kd.C_below HR0_0.out (mD1 GE151.out))))
    (case side2 => exact HC0_0.out)
    rintro e w13 ⟨rfl, hb⟩
    refine ⟨_, rfl, ?_⟩
    have n0_ := aA (bB BK151.out hb)
    have n1_ := aA (below_step (mD1 GE151.out) hb)
    clear BK151
    clear HB
    have BK151 := n0_
    have HB := n1_
    clear n0_ n1_
    (try clear hb)
    (try clear hb2)
    (try clear hk)
    (try clear hi)
    refine hK.out _ _ (bC5 BK151.out) (fun hHeld => ?_)
    clear hK K
    refine norm_ (a' := ?_) ?_ ?_
    rotate_left
    ·show Act.put _ (some 16) _ = _
     simp only [Act.put, List.setIfInBounds_toArray, List.set_cons_zero, List.set_cons_succ, i64_w, i32_w]
     rfl
    refine one_ (i := 14) (N := some 17) #[true, true, true, true, true, true, true, true, true, true, true, true, true, true, true, false, false, false, false, false, false, false, false, false] rfl rfl (one_of HT_.out (by kernel_rfl)) (by decide) (fun K hK => ?_)
    refine goes_ Try.func39 (by kernel_rfl) rfl #[.int .i64 a0_2, .int .i64 0, .int .i64 t154] (by rfl) rfl rfl mS ?_
    with_reducible refine (store_in.calls a0_2 0 t154 true _ A7.out).mono ?_
    rintro e w' ⟨rfl, ⟨nd, rfl⟩⟩
    refine ⟨_, rfl, ?_⟩
    refine hK.out _ _ (bC5 BK151.out) (fun hHeld => ?_)
    clear hK K
    refine norm_ (a' := ?_) ?_ ?_
    rotate_left
    ·show Act.put _ (some 17) _ = _
     simp only [Act.put, List.setIfInBounds_toArray, List.set_cons_zero, List.set_cons_succ, i64_w, i32_w]
     rfl
    refine pure_ (i := 15) (N := some 18) (v := ?_) (a' := ?_) #[true, true, true, true, true, true, true, true, true, true, true, true, true, true, true, true, false, false, false, false, false, false, false, false] rfl rfl (any_of HT_.out (by kernel_rfl)) (fun _ _ _ h => h) (Or.inl ⟨by rfl, ?_⟩) ?_ ?_
    rotate_left
    ·intro w'
     go_simp
     with_reducible rfl
    rotate_left
    ·exact mP
    refine pure_ (i := 16) (N := some 19) (v := ?_) (a' := ?_) #[true, true, true, true, true, true, true, true, true, true, true, true, true, true, true, true, true, false, false, false, false, false, false, false] rfl rfl (any_of HT_.out (by kernel_rfl)) (fun _ _ _ h => h) (Or.inl ⟨by rfl, ?_⟩) ?_ ?_
    rotate_left
    ·intro w'
     go_simp
     with_reducible rfl
    rotate_left
    ·exact mP
    refine pure_ (i := 17) (N := some 20) (v := ?_) (a' := ?_) #[true, true, true, true, true, true, true, true, true, true, true, true, true, true, true, true, true, true, false, false, false, false, false, false] rfl rfl (any_of HT_.out (by kernel_rfl)) (fun _ _ _ h => h) (Or.inl ⟨by rfl, ?_⟩) ?_ ?_
    rotate_left
    ·intro w'
     go_simp
     with_reducible rfl
    rotate_left
    ·exact mP
    refine pure_ (i := 19) (N := some 22) (v := ?_) (a' := ?_) #[true, true, true, true, true, true, true, true, true, true, true, true, true, true, true, true, true, true, false, true, false, false, false, false] rfl rfl (any_of HT_.out (by kernel_rfl)) (fun _ _ _ h => h) (Or.inl ⟨by rfl, ?_⟩) ?_ ?_
    rotate_left
    ·intro w'
     go_simp
     with_reducible rfl
    rotate_left
    ·exact mP
    refine take_ (i := 18) (N := some 21) (v := ?_) (a' := ?_) #[true, true, true, true, true, true, true, true, true, true, true, true, true, true, true, true, true, true, true, true, false, false, false, false] rfl rfl (take_ofW HT_.out HW_.out (by kernel_rfl)) (fun _ _ _ h => h) (Or.inl ⟨by rfl, ?_⟩) hHeld ?_ ?_
    rotate_left
    ·rintro w' ⟨s0, s1, s2, s3, s4⟩
     go_simp
     with_reducible rfl
    rotate_left
    ·exact mP
    refine take_ (i := 20) (N := some 23) (v := ?_) (a' := ?_) #[true, true, true, true, true, true, true, true, true, true, true, true, true, true, true, true, true, true, true, true, true, false, false, false] rfl rfl (take_ofW HT_.out HW_.out (by kernel_rfl)) (fun _ _ _ h => h) (Or.inl ⟨by rfl, ?_⟩) hHeld ?_ ?_
    rotate_left
    ·rintro w' ⟨s0, s1, s2, s3, s4⟩
     go_simp
     with_reducible rfl
    rotate_left
    ·exact mP
    refine one_ (i := 21) (N := some 24) #[true, true, true, true, true, true, true, true, true, true, true, true, true, true, true, true, true, true, true, true, true, true, false, false] rfl rfl (one_of HT_.out (by kernel_rfl)) (by decide) (fun K hK => ?_)
    refine goes_ Try.func39 (by kernel_rfl) rfl #[.int .i64 a0_3, .int .i64 a0_1, .int .i64 250] (by rfl) rfl rfl mS ?_
    with_reducible refine (store_in.calls a0_3 a0_1 250 t156 _ A9.out).mono ?_
    rintro e w' ⟨rfl, ⟨nd, rfl⟩⟩
    refine ⟨_, rfl, ?_⟩
    refine hK.out _ _ (bC5 BK151.out) (fun hHeld => ?_)
    clear hK K
    refine norm_ (a' := ?_) ?_ ?_
    rotate_left
    ·show Act.put _ (some 24) _ = _
     simp only [Act.put, List.setIfInBounds_toArray, List.set_cons_zero, List.set_cons_succ, i64_w, i32_w]
     rfl
    refine pure_ (i := 22) (N := some 25) (v := ?_) (a' := ?_) #[true, true, true, true, true, true, true, true, true, true, true, true, true, true, true, true, true, true, true, true, true, true, true, false] rfl rfl (any_of HT_.out (by kernel_rfl)) (fun _ _ _ h => h) (Or.inl ⟨by rfl, ?_⟩) ?_ ?_
    rotate_left
    ·intro w'
     go_simp
     with_reducible rfl
    rotate_left
    ·exact mP
    refine pure_ (i := 23) (N := some 2) (v := ?_) (a' := ?_) #[true, true, true, true, true, true, true, true, true, true, true, true, true, true, true, true, true, true, true, true, true, true, true, true] rfl rfl (any_of HT_.out (by kernel_rfl)) (fun _ _ _ h => h) (Or.inl ⟨by rfl, ?_⟩) ?_ ?_
    rotate_left
    ·intro w'
     go_simp
     with_reducible rfl
    rotate_left
    ·exact mP
    refine done_ (done_of HT_.out (by kernel_rfl)) ?_
    try go_wp2
    go_ret
    exact ⟨by first | rfl | (simp [errW_none, errW_some] <;> rfl) | (simp [*, errW_none, errW_some] <;> rfl), by repeat (first | (with_reducible first | exact HB.out | apply below_alloc | apply pw_below_drewN | apply below_drew1 | refine below_set ?_ GE151.out) | exact HB.out)⟩
   ·replace c8 := Bool.eq_false_iff.mpr c8
    subst c8
    have H1 : (some false) = some r := by rw [if_neg (show ¬ (false = true) by decide)] at H; exact H
    clear H
    have H := H1
    clear H1
    obtain rfl := Option.some.inj H
    go_enter Try.func13, Try.ntmps13
    try go_wp2_with (first | ((with_reducible refine gate_dst (N := 1) rfl ?_); refine box_event ?hg (N := 1) ?hd (cs := #[.slice A0_0 l0_0.length c0_0, .int .i64 a0_1, .int .i64 a0_2, .int .i64 a0_3, .bool a0_4]) (t := 26) ?hr ?_; (case hd => rfl); (case hg => rfl); (case hr => first | (go_simp; done) | (go_simp; rfl)); intro gb151 hg w14 hbox hb; have n0_ := aA (below_step mB hb); have n1_ := aA (hbox); have n2_ := aA ((bZ hg mB)); have n3_ := aA ((bZ hg mB)); clear HB; have HB := n0_; have BK151 := n1_; have GW151 := n2_; have GE151 := n3_; clear n0_ n1_ n2_ n3_ hb hbox hg))
    have n0_ := aA (blk_drew BK151.out)
    have n1_ := aA (below_drew1 HB.out)
    clear BK151
    clear HB
    have BK151 := n0_
    have HB := n1_
    clear n0_ n1_
    refine start_ (n := 24) (S := fun w' => w'.cell? ⟨gb151, 0, none⟩ = some (.slice A0_0 l0_0.length c0_0) ∧ w'.cell? ⟨gb151, 1, none⟩ = some (.int .i64 a0_1) ∧ w'.cell? ⟨gb151, 2, none⟩ = some (.int .i64 a0_2) ∧ w'.cell? ⟨gb151, 3, none⟩ = some (.int .i64 a0_3) ∧ w'.cell? ⟨gb151, 4, none⟩ = some (.bool a0_4)) (ds := []) #[false, false, false, false, false, false, false, false, false, false, false, false, false, false, false, false, false, false, false, false, false, false, false, false] (by kernel_rfl) rfl rfl (bC5 BK151.out) (fun hHeld => ?_); refine with_tabW store_Right.tab1 store_Right.bits1 (fun HT_ HW_ => ?_)
    generalize w14.drew = w15 at BK151 HB hHeld ⊢
    refine pure_ (i := 0) (N := some 3) (v := ?_) (a' := ?_) #[true, false, false, false, false, false, false, false, false, false, false, false, false, false, false, false, false, false, false, false, false, false, false, false] rfl rfl (any_of HT_.out (by kernel_rfl)) (fun _ _ _ h => h) (Or.inl ⟨by rfl, ?_⟩) ?_ ?_
    rotate_left
    ·intro w'
     go_simp
     with_reducible rfl
    rotate_left
    ·exact mP
    refine take_ (i := 1) (N := some 4) (v := ?_) (a' := ?_) #[true, true, false, false, false, false, false, false, false, false, false, false, false, false, false, false, false, false, false, false, false, false, false, false] rfl rfl (take_ofW HT_.out HW_.out (by kernel_rfl)) (fun _ _ _ h => h) (Or.inl ⟨by rfl, ?_⟩) hHeld ?_ ?_
    rotate_left
    ·rintro w' ⟨s0, s1, s2, s3, s4⟩
     go_simp
     with_reducible rfl
    rotate_left
    ·exact mP
    refine one_ (i := 2) (N := some 5) #[true, true, true, false, false, false, false, false, false, false, false, false, false, false, false, false, false, false, false, false, false, false, false, false] rfl rfl (one_of HT_.out (by kernel_rfl)) (by decide) (fun K hK => ?_)
    refine goes_ Try.func35 (by kernel_rfl) rfl #[.agg #[.slice A0_0 l0_0.length c0_0]] (by rfl) rfl rfl mS ?_
    with_reducible refine (store_hasLog.calls _ _ l0_0 true _ ?side1 ?side2 A2.out).mono ?_
    (case side1 => exact mC ((Kd.C_below HR0_0.out HB.out)))
    (case side2 => exact HC0_0.out)
    rintro e w16 ⟨rfl, hb⟩
    refine ⟨_, rfl, ?_⟩
    have n0_ := aA (bB BK151.out hb)
    have n1_ := aA (below_step (mD1 GE151.out) hb)
    clear BK151
    clear HB
    have BK151 := n0_
    have HB := n1_
    clear n0_ n1_
    (try clear hb)
    (try clear hb2)
    (try clear hk)
    (try clear hi)
    refine hK.out _ _ (bC5 BK151.out) (fun hHeld => ?_)
    clear hK K
    refine norm_ (a' := ?_) ?_ ?_
    rotate_left
    ·show Act.put _ (some 5) _ = _
     simp only [Act.put, List.setIfInBounds_toArray, List.set_cons_zero, List.set_cons_succ, i64_w, i32_w]
     rfl
    refine pure_ (i := 3) (N := some 6) (v := ?_) (a' := ?_) #[true, true, true, true, false, false, false, false, false, false, false, false, false, false, false, false, false, false, false, false, false, false, false, false] rfl rfl (any_of HT_.out (by kernel_rfl)) (fun _ _ _ h => h) (Or.inl ⟨by rfl, ?_⟩) ?_ ?_
    rotate_left
    ·intro w'
     go_simp
     with_reducible rfl
    rotate_left
    ·exact mP
    refine pure_ (i := 4) (N := some 7) (v := ?_) (a' := ?_) #[true, true, true, true, true, false, false, false, false, false, false, false, false, false, false, false, false, false, false, false, false, false, false, false] rfl rfl (any_of HT_.out (by kernel_rfl)) (fun _ _ _ h => h) (Or.inl ⟨by rfl, ?_⟩) ?_ ?_
    rotate_left
    ·intro w'
     go_simp
     with_reducible rfl
    rotate_left
    ·exact mP
    refine take_ (i := 5) (N := some 8) (v := ?_) (a' := ?_) #[true, true, true, true, true, true, false, false, false, false, false, false, false, false, false, false, false, false, false, false, false, false, false, false] rfl rfl (take_ofW HT_.out HW_.out (by kernel_rfl)) (fun _ _ _ h => h) (Or.inl ⟨by rfl, ?_⟩) hHeld ?_ ?_
    rotate_left
    ·rintro w' ⟨s0, s1, s2, s3, s4⟩
     go_simp
     with_reducible rfl
    rotate_left
    ·exact mP
    refine one_ (i := 6) (N := some 9) #[true, true, true, true, true, true, true, false, false, false, false, false, false, false, false, false, false, false, false, false, false, false, false, false] rfl rfl (one_of HT_.out (by kernel_rfl)) (by decide) (fun K hK => ?_)
    refine goes_ Try.func39 (by kernel_rfl) rfl #[.int .i64 a0_1, .int .i64 1, .int .i64 250] (by rfl) rfl rfl mS ?_
    with_reducible refine (store_in.calls a0_1 1 250 true _ A4.out).mono ?_
    rintro e w' ⟨rfl, ⟨nd, rfl⟩⟩
    refine ⟨_, rfl, ?_⟩
    refine hK.out _ _ (bC5 BK151.out) (fun hHeld => ?_)
    clear hK K
    refine norm_ (a' := ?_) ?_ ?_
    rotate_left
    ·show Act.put _ (some 9) _ = _
     simp only [Act.put, List.setIfInBounds_toArray, List.set_cons_zero, List.set_cons_succ, i64_w, i32_w]
     rfl
    refine pure_ (i := 7) (N := some 10) (v := ?_) (a' := ?_) #[true, true, true, true, true, true, true, true, false, false, false, false, false, false, false, false, false, false, false, false, false, false, false, false] rfl rfl (any_of HT_.out (by kernel_rfl)) (fun _ _ _ h => h) (Or.inl ⟨by rfl, ?_⟩) ?_ ?_
    rotate_left
    ·intro w'
     go_simp
     with_reducible rfl
    rotate_left
    ·exact mP
    refine pure_ (i := 8) (N := some 11) (v := ?_) (a' := ?_) #[true, true, true, true, true, true, true, true, true, false, false, false, false, false, false, false, false, false, false, false, false, false, false, false] rfl rfl (any_of HT_.out (by kernel_rfl)) (fun _ _ _ h => h) (Or.inl ⟨by rfl, ?_⟩) ?_ ?_
    rotate_left
    ·intro w'
     go_simp
     with_reducible rfl
    rotate_left
    ·exact mP
    refine pure_ (i := 9) (N := some 12) (v := ?_) (a' := ?_) #[true, true, true, true, true, true, true, true, true, true, false, false, false, false, false, false, false, false, false, false, false, false, false, false] rfl rfl (any_of HT_.out (by kernel_rfl)) (fun _ _ _ h => h) (Or.inl ⟨by rfl, ?_⟩) ?_ ?_
    rotate_left
    ·intro w'
     go_simp
     with_reducible rfl
    rotate_left
    ·exact mP
    refine pure_ (i := 11) (N := some 14) (v := ?_) (a' := ?_) #[true, true, true, true, true, true, true, true, true, true, false, true, false, false, false, false, false, false, false, false, false, false, false, false] rfl rfl (any_of HT_.out (by kernel_rfl)) (fun _ _ _ h => h) (Or.inl ⟨by rfl, ?_⟩) ?_ ?_
    rotate_left
    ·intro w'
     go_simp
     with_reducible rfl
    rotate_left
    ·exact mP
    refine take_ (i := 10) (N := some 13) (v := ?_) (a' := ?_) #[true, true, true, true, true, true, true, true, true, true, true, true, false, false, false, false, false, false, false, false, false, false, false, false] rfl rfl (take_ofW HT_.out HW_.out (by kernel_rfl)) (fun _ _ _ h => h) (Or.inl ⟨by rfl, ?_⟩) hHeld ?_ ?_
    rotate_left
    ·rintro w' ⟨s0, s1, s2, s3, s4⟩
     go_simp
     with_reducible rfl
    rotate_left
    ·exact mP
    refine take_ (i := 12) (N := some 15) (v := ?_) (a' := ?_) #[true, true, true, true, true, true, true, true, true, true, true, true, true, false, false, false, false, false, false, false, false, false, false, false] rfl rfl (take_ofW HT_.out HW_.out (by kernel_rfl)) (fun _ _ _ h => h) (Or.inl ⟨by rfl, ?_⟩) hHeld ?_ ?_
    rotate_left
    ·rintro w' ⟨s0, s1, s2, s3, s4⟩
     go_simp
     with_reducible rfl
    rotate_left
    ·exact mP
    refine one_ (i := 13) (N := some 16) #[true, true, true, true, true, true, true, true, true, true, true, true, true, true, false, false, false, false, false, false, false, false, false, false] rfl rfl (one_of HT_.out (by kernel_rfl)) (by decide) (fun K hK => ?_)
    refine goes_ Try.func37 (by kernel_rfl) rfl #[.agg #[.slice A0_0 l0_0.length c0_0]] (by rfl) rfl rfl mS ?_
    with_reducible refine (store_area.calls _ _ l0_0 t154 _ ?side1 ?side2 A6.out).mono ?_
    (case side1 => exact mC ((Kd.C_below HR0_0.out (mD1 GE151.out))))
    (case side2 => exact HC0_0.out)
    rintro e w17 ⟨rfl, hb⟩
    refine ⟨_, rfl, ?_⟩
    have n0_ := aA (bB BK151.out hb)
    have n1_ := aA (below_step (mD1 GE151.out) hb)
    clear BK151
    clear HB
    have BK151 := n0_
    have HB := n1_
    clear n0_ n1_
    (try clear hb)
    (try clear hb2)
    (try clear hk)
    (try clear hi)
    refine hK.out _ _ (bC5 BK151.out) (fun hHeld => ?_)
    clear hK K
    refine norm_ (a' := ?_) ?_ ?_
    rotate_left
    ·show Act.put _ (some 16) _ = _
     simp only [Act.put, List.setIfInBounds_toArray, List.set_cons_zero, List.set_cons_succ, i64_w, i32_w]
     rfl
    refine one_ (i := 14) (N := some 17) #[true, true, true, true, true, true, true, true, true, true, true, true, true, true, true, false, false, false, false, false, false, false, false, false] rfl rfl (one_of HT_.out (by kernel_rfl)) (by decide) (fun K hK => ?_)
    refine goes_ Try.func39 (by kernel_rfl) rfl #[.int .i64 a0_2, .int .i64 0, .int .i64 t154] (by rfl) rfl rfl mS ?_
    with_reducible refine (store_in.calls a0_2 0 t154 false _ A7.out).mono ?_
    rintro e w' ⟨rfl, ⟨nd, rfl⟩⟩
    refine ⟨_, rfl, ?_⟩
    refine hK.out _ _ (bC5 BK151.out) (fun hHeld => ?_)
    clear hK K
    refine norm_ (a' := ?_) ?_ ?_
    rotate_left
    ·show Act.put _ (some 17) _ = _
     simp only [Act.put, List.setIfInBounds_toArray, List.set_cons_zero, List.set_cons_succ, i64_w, i32_w]
     rfl
    refine pure_ (i := 15) (N := some 18) (v := ?_) (a' := ?_) #[true, true, true, true, true, true, true, true, true, true, true, true, true, true, true, true, false, false, false, false, false, false, false, false] rfl rfl (any_of HT_.out (by kernel_rfl)) (fun _ _ _ h => h) (Or.inl ⟨by rfl, ?_⟩) ?_ ?_
    rotate_left
    ·intro w'
     go_simp
     with_reducible rfl
    rotate_left
    ·exact mP
    refine pure_ (i := 16) (N := some 19) (v := ?_) (a' := ?_) #[true, true, true, true, true, true, true, true, true, true, true, true, true, true, true, true, true, false, false, false, false, false, false, false] rfl rfl (any_of HT_.out (by kernel_rfl)) (fun _ _ _ h => h) (Or.inl ⟨by rfl, ?_⟩) ?_ ?_
    rotate_left
    ·intro w'
     go_simp
     with_reducible rfl
    rotate_left
    ·exact mP
    refine pure_ (i := 17) (N := some 20) (v := undef) (a' := ?_) #[true, true, true, true, true, true, true, true, true, true, true, true, true, true, true, true, true, true, false, false, false, false, false, false] rfl rfl (any_of HT_.out (by kernel_rfl)) (fun _ _ _ h => h) (Or.inr ⟨by rfl, rfl⟩) ?_ ?_
    rotate_left
    ·exact mP
    refine pure_ (i := 18) (N := some 21) (v := undef) (a' := ?_) #[true, true, true, true, true, true, true, true, true, true, true, true, true, true, true, true, true, true, true, false, false, false, false, false] rfl rfl (any_of HT_.out (by kernel_rfl)) (fun _ _ _ h => h) (Or.inr ⟨by rfl, rfl⟩) ?_ ?_
    rotate_left
    ·exact mP
    refine pure_ (i := 19) (N := some 22) (v := undef) (a' := ?_) #[true, true, true, true, true, true, true, true, true, true, true, true, true, true, true, true, true, true, true, true, false, false, false, false] rfl rfl (any_of HT_.out (by kernel_rfl)) (fun _ _ _ h => h) (Or.inr ⟨by rfl, rfl⟩) ?_ ?_
    rotate_left
    ·exact mP
    refine pure_ (i := 20) (N := some 23) (v := undef) (a' := ?_) #[true, true, true, true, true, true, true, true, true, true, true, true, true, true, true, true, true, true, true, true, true, false, false, false] rfl rfl (any_of HT_.out (by kernel_rfl)) (fun _ _ _ h => h) (Or.inr ⟨by rfl, rfl⟩) ?_ ?_
    rotate_left
    ·exact mP
    refine pure_ (i := 21) (N := some 24) (v := undef) (a' := ?_) #[true, true, true, true, true, true, true, true, true, true, true, true, true, true, true, true, true, true, true, true, true, true, false, false] rfl rfl (any_of HT_.out (by kernel_rfl)) (fun _ _ _ h => h) (Or.inr ⟨by rfl, rfl⟩) ?_ ?_
    rotate_left
    ·exact mP
    refine pure_ (i := 22) (N := some 25) (v := ?_) (a' := ?_) #[true, true, true, true, true, true, true, true, true, true, true, true, true, true, true, true, true, true, true, true, true, true, true, false] rfl rfl (any_of HT_.out (by kernel_rfl)) (fun _ _ _ h => h) (Or.inl ⟨by rfl, ?_⟩) ?_ ?_
    rotate_left
    ·intro w'
     go_simp
     with_reducible rfl
    rotate_left
    ·exact mP
    refine pure_ (i := 23) (N := some 2) (v := ?_) (a' := ?_) #[true, true, true, true, true, true, true, true, true, true, true, true, true, true, true, true, true, true, true, true, true, true, true, true] rfl rfl (any_of HT_.out (by kernel_rfl)) (fun _ _ _ h => h) (Or.inl ⟨by rfl, ?_⟩) ?_ ?_
    rotate_left
    ·intro w'
     go_simp
     with_reducible rfl
    rotate_left
    ·exact mP
    refine done_ (done_of HT_.out (by kernel_rfl)) ?_
    try go_wp2
    go_ret
    exact ⟨by first | rfl | (simp [errW_none, errW_some] <;> rfl) | (simp [*, errW_none, errW_some] <;> rfl), by repeat (first | (with_reducible first | exact HB.out | apply below_alloc | apply pw_below_drewN | apply below_drew1 | refine below_set ?_ GE151.out) | exact HB.out)⟩
  ·replace c5 := Bool.eq_false_iff.mpr c5
   subst c5
   have H1 : (some false) = some r := by rw [if_neg (show ¬ (false = true) by decide)] at H; exact H
   clear H
   have H := H1
   clear H1
   obtain rfl := Option.some.inj H
   go_enter Try.func13, Try.ntmps13
   try go_wp2_with (first | ((with_reducible refine gate_dst (N := 1) rfl ?_); refine box_event ?hg (N := 1) ?hd (cs := #[.slice A0_0 l0_0.length c0_0, .int .i64 a0_1, .int .i64 a0_2, .int .i64 a0_3, .bool a0_4]) (t := 26) ?hr ?_; (case hd => rfl); (case hg => rfl); (case hr => first | (go_simp; done) | (go_simp; rfl)); intro gb151 hg w18 hbox hb; have n0_ := aA (below_step mB hb); have n1_ := aA (hbox); have n2_ := aA ((bZ hg mB)); have n3_ := aA ((bZ hg mB)); clear HB; have HB := n0_; have BK151 := n1_; have GW151 := n2_; have GE151 := n3_; clear n0_ n1_ n2_ n3_ hb hbox hg))
   have n0_ := aA (blk_drew BK151.out)
   have n1_ := aA (below_drew1 HB.out)
   clear BK151
   clear HB
   have BK151 := n0_
   have HB := n1_
   clear n0_ n1_
   refine start_ (n := 24) (S := fun w' => w'.cell? ⟨gb151, 0, none⟩ = some (.slice A0_0 l0_0.length c0_0) ∧ w'.cell? ⟨gb151, 1, none⟩ = some (.int .i64 a0_1) ∧ w'.cell? ⟨gb151, 2, none⟩ = some (.int .i64 a0_2) ∧ w'.cell? ⟨gb151, 3, none⟩ = some (.int .i64 a0_3) ∧ w'.cell? ⟨gb151, 4, none⟩ = some (.bool a0_4)) (ds := []) #[false, false, false, false, false, false, false, false, false, false, false, false, false, false, false, false, false, false, false, false, false, false, false, false] (by kernel_rfl) rfl rfl (bC5 BK151.out) (fun hHeld => ?_); refine with_tabW store_Right.tab1 store_Right.bits1 (fun HT_ HW_ => ?_)
   generalize w18.drew = w19 at BK151 HB hHeld ⊢
   refine pure_ (i := 0) (N := some 3) (v := ?_) (a' := ?_) #[true, false, false, false, false, false, false, false, false, false, false, false, false, false, false, false, false, false, false, false, false, false, false, false] rfl rfl (any_of HT_.out (by kernel_rfl)) (fun _ _ _ h => h) (Or.inl ⟨by rfl, ?_⟩) ?_ ?_
   rotate_left
   ·intro w'
    go_simp
    with_reducible rfl
   rotate_left
   ·exact mP
   refine take_ (i := 1) (N := some 4) (v := ?_) (a' := ?_) #[true, true, false, false, false, false, false, false, false, false, false, false, false, false, false, false, false, false, false, false, false, false, false, false] rfl rfl (take_ofW HT_.out HW_.out (by kernel_rfl)) (fun _ _ _ h => h) (Or.inl ⟨by rfl, ?_⟩) hHeld ?_ ?_
   rotate_left
   ·rintro w' ⟨s0, s1, s2, s3, s4⟩
    go_simp
    with_reducible rfl
   rotate_left
   ·exact mP
   refine one_ (i := 2) (N := some 5) #[true, true, true, false, false, false, false, false, false, false, false, false, false, false, false, false, false, false, false, false, false, false, false, false] rfl rfl (one_of HT_.out (by kernel_rfl)) (by decide) (fun K hK => ?_)
   refine goes_ Try.func35 (by kernel_rfl) rfl #[.agg #[.slice A0_0 l0_0.length c0_0]] (by rfl) rfl rfl mS ?_
   with_reducible refine (store_hasLog.calls _ _ l0_0 true _ ?side1 ?side2 A2.out).mono ?_
   (case side1 => exact mC ((Kd.C_below HR0_0.out HB.out)))
   (case side2 => exact HC0_0.out)
   rintro e w20 ⟨rfl, hb⟩
   refine ⟨_, rfl, ?_⟩
   have n0_ := aA (bB BK151.out hb)
   have n1_ := aA (below_step (mD1 GE151.out) hb)
   clear BK151
   clear HB
   have BK151 := n0_
   have HB := n1_
   clear n0_ n1_
   (try clear hb)
   (try clear hb2)
   (try clear hk)
   (try clear hi)
   refine hK.out _ _ (bC5 BK151.out) (fun hHeld => ?_)
   clear hK K
   refine norm_ (a' := ?_) ?_ ?_
   rotate_left
   ·show Act.put _ (some 5) _ = _
    simp only [Act.put, List.setIfInBounds_toArray, List.set_cons_zero, List.set_cons_succ, i64_w, i32_w]
    rfl
   refine pure_ (i := 3) (N := some 6) (v := ?_) (a' := ?_) #[true, true, true, true, false, false, false, false, false, false, false, false, false, false, false, false, false, false, false, false, false, false, false, false] rfl rfl (any_of HT_.out (by kernel_rfl)) (fun _ _ _ h => h) (Or.inl ⟨by rfl, ?_⟩) ?_ ?_
   rotate_left
   ·intro w'
    go_simp
    with_reducible rfl
   rotate_left
   ·exact mP
   refine pure_ (i := 4) (N := some 7) (v := ?_) (a' := ?_) #[true, true, true, true, true, false, false, false, false, false, false, false, false, false, false, false, false, false, false, false, false, false, false, false] rfl rfl (any_of HT_.out (by kernel_rfl)) (fun _ _ _ h => h) (Or.inl ⟨by rfl, ?_⟩) ?_ ?_
   rotate_left
   ·intro w'
    go_simp
    with_reducible rfl
   rotate_left
   ·exact mP
   refine take_ (i := 5) (N := some 8) (v := ?_) (a' := ?_) #[true, true, true, true, true, true, false, false, false, false, false, false, false, false, false, false, false, false, false, false, false, false, false, false] rfl rfl (take_ofW HT_.out HW_.out (by kernel_rfl)) (fun _ _ _ h => h) (Or.inl ⟨by rfl, ?_⟩) hHeld ?_ ?_
   rotate_left
   ·rintro w' ⟨s0, s1, s2, s3, s4⟩
    go_simp
    with_reducible rfl
   rotate_left
   ·exact mP
   refine one_ (i := 6) (N := some 9) #[true, true, true, true, true, true, true, false, false, false, false, false, false, false, false, false, false, false, false, false, false, false, false, false] rfl rfl (one_of HT_.out (by kernel_rfl)) (by decide) (fun K hK => ?_)
   refine goes_ Try.func39 (by kernel_rfl) rfl #[.int .i64 a0_1, .int .i64 1, .int .i64 250] (by rfl) rfl rfl mS ?_
   with_reducible refine (store_in.calls a0_1 1 250 false _ A4.out).mono ?_
   rintro e w' ⟨rfl, ⟨nd, rfl⟩⟩
   refine ⟨_, rfl, ?_⟩
   refine hK.out _ _ (bC5 BK151.out) (fun hHeld => ?_)
   clear hK K
   refine norm_ (a' := ?_) ?_ ?_
   rotate_left
   ·show Act.put _ (some 9) _ = _
    simp only [Act.put, List.setIfInBounds_toArray, List.set_cons_zero, List.set_cons_succ, i64_w, i32_w]
    rfl
   refine pure_ (i := 7) (N := some 10) (v := ?_) (a' := ?_) #[true, true, true, true, true, true, true, true, false, false, false, false, false, false, false, false, false, false, false, false, false, false, false, false] rfl rfl (any_of HT_.out (by kernel_rfl)) (fun _ _ _ h => h) (Or.inl ⟨by rfl, ?_⟩) ?_ ?_
   rotate_left
   ·intro w'
    go_simp
    with_reducible rfl
   rotate_left
   ·exact mP
   refine pure_ (i := 8) (N := some 11) (v := ?_) (a' := ?_) #[true, true, true, true, true, true, true, true, true, false, false, false, false, false, false, false, false, false, false, false, false, false, false, false] rfl rfl (any_of HT_.out (by kernel_rfl)) (fun _ _ _ h => h) (Or.inl ⟨by rfl, ?_⟩) ?_ ?_
   rotate_left
   ·intro w'
    go_simp
    with_reducible rfl
   rotate_left
   ·exact mP
   refine pure_ (i := 9) (N := some 12) (v := undef) (a' := ?_) #[true, true, true, true, true, true, true, true, true, true, false, false, false, false, false, false, false, false, false, false, false, false, false, false] rfl rfl (any_of HT_.out (by kernel_rfl)) (fun _ _ _ h => h) (Or.inr ⟨by rfl, rfl⟩) ?_ ?_
   rotate_left
   ·exact mP
   refine pure_ (i := 10) (N := some 13) (v := undef) (a' := ?_) #[true, true, true, true, true, true, true, true, true, true, true, false, false, false, false, false, false, false, false, false, false, false, false, false] rfl rfl (any_of HT_.out (by kernel_rfl)) (fun _ _ _ h => h) (Or.inr ⟨by rfl, rfl⟩) ?_ ?_
   rotate_left
   ·exact mP
   refine pure_ (i := 11) (N := some 14) (v := undef) (a' := ?_) #[true, true, true, true, true, true, true, true, true, true, true, true, false, false, false, false, false, false, false, false, false, false, false, false] rfl rfl (any_of HT_.out (by kernel_rfl)) (fun _ _ _ h => h) (Or.inr ⟨by rfl, rfl⟩) ?_ ?_
   rotate_left
   ·exact mP
   refine pure_ (i := 12) (N := some 15) (v := undef) (a' := ?_) #[true, true, true, true, true, true, true, true, true, true, true, true, true, false, false, false, false, false, false, false, false, false, false, false] rfl rfl (any_of HT_.out (by kernel_rfl)) (fun _ _ _ h => h) (Or.inr ⟨by rfl, rfl⟩) ?_ ?_
   rotate_left
   ·exact mP
   refine pure_ (i := 13) (N := some 16) (v := undef) (a' := ?_) #[true, true, true, true, true, true, true, true, true, true, true, true, true, true, false, false, false, false, false, false, false, false, false, false] rfl rfl (any_of HT_.out (by kernel_rfl)) (fun _ _ _ h => h) (Or.inr ⟨by rfl, rfl⟩) ?_ ?_
   rotate_left
   ·exact mP
   refine pure_ (i := 14) (N := some 17) (v := undef) (a' := ?_) #[true, true, true, true, true, true, true, true, true, true, true, true, true, true, true, false, false, false, false, false, false, false, false, false] rfl rfl (any_of HT_.out (by kernel_rfl)) (fun _ _ _ h => h) (Or.inr ⟨by rfl, rfl⟩) ?_ ?_
   rotate_left
   ·exact mP
   refine pure_ (i := 15) (N := some 18) (v := ?_) (a' := ?_) #[true, true, true, true, true, true, true, true, true, true, true, true, true, true, true, true, false, false, false, false, false, false, false, false] rfl rfl (any_of HT_.out (by kernel_rfl)) (fun _ _ _ h => h) (Or.inl ⟨by rfl, ?_⟩) ?_ ?_
   rotate_left
   ·intro w'
    go_simp
    with_reducible rfl
   rotate_left
   ·exact mP
   refine pure_ (i := 16) (N := some 19) (v := ?_) (a' := ?_) #[true, true, true, true, true, true, true, true, true, true, true, true, true, true, true, true, true, false, false, false, false, false, false, false] rfl rfl (any_of HT_.out (by kernel_rfl)) (fun _ _ _ h => h) (Or.inl ⟨by rfl, ?_⟩) ?_ ?_
   rotate_left
   ·intro w'
    go_simp
    with_reducible rfl
   rotate_left
   ·exact mP
   refine pure_ (i := 17) (N := some 20) (v := undef) (a' := ?_) #[true, true, true, true, true, true, true, true, true, true, true, true, true, true, true, true, true, true, false, false, false, false, false, false] rfl rfl (any_of HT_.out (by kernel_rfl)) (fun _ _ _ h => h) (Or.inr ⟨by rfl, rfl⟩) ?_ ?_
   rotate_left
   ·exact mP
   refine pure_ (i := 18) (N := some 21) (v := undef) (a' := ?_) #[true, true, true, true, true, true, true, true, true, true, true, true, true, true, true, true, true, true, true, false, false, false, false, false] rfl rfl (any_of HT_.out (by kernel_rfl)) (fun _ _ _ h => h) (Or.inr ⟨by rfl, rfl⟩) ?_ ?_
   rotate_left
   ·exact mP
   refine pure_ (i := 19) (N := some 22) (v := undef) (a' := ?_) #[true, true, true, true, true, true, true, true, true, true, true, true, true, true, true, true, true, true, true, true, false, false, false, false] rfl rfl (any_of HT_.out (by kernel_rfl)) (fun _ _ _ h => h) (Or.inr ⟨by rfl, rfl⟩) ?_ ?_
   rotate_left
   ·exact mP
   refine pure_ (i := 20) (N := some 23) (v := undef) (a' := ?_) #[true, true, true, true, true, true, true, true, true, true, true, true, true, true, true, true, true, true, true, true, true, false, false, false] rfl rfl (any_of HT_.out (by kernel_rfl)) (fun _ _ _ h => h) (Or.inr ⟨by rfl, rfl⟩) ?_ ?_
   rotate_left
   ·exact mP
   refine pure_ (i := 21) (N := some 24) (v := undef) (a' := ?_) #[true, true, true, true, true, true, true, true, true, true, true, true, true, true, true, true, true, true, true, true, true, true, false, false] rfl rfl (any_of HT_.out (by kernel_rfl)) (fun _ _ _ h => h) (Or.inr ⟨by rfl, rfl⟩) ?_ ?_
   rotate_left
   ·exact mP
   refine pure_ (i := 22) (N := some 25) (v := ?_) (a' := ?_) #[true, true, true, true, true, true, true, true, true, true, true, true, true, true, true, true, true, true, true, true, true, true, true, false] rfl rfl (any_of HT_.out (by kernel_rfl)) (fun _ _ _ h => h) (Or.inl ⟨by rfl, ?_⟩) ?_ ?_
   rotate_left
   ·intro w'
    go_simp
    with_reducible rfl
   rotate_left
   ·exact mP
   refine pure_ (i := 23) (N := some 2) (v := ?_) (a' := ?_) #[true, true, true, true, true, true, true, true, true, true, true, true, true, true, true, true, true, true, true, true, true, true, true, true] rfl rfl (any_of HT_.out (by kernel_rfl)) (fun _ _ _ h => h) (Or.inl ⟨by rfl, ?_⟩) ?_ ?_
   rotate_left
   ·intro w'
    go_simp
    with_reducible rfl
   rotate_left
   ·exact mP
   refine done_ (done_of HT_.out (by kernel_rfl)) ?_
   try go_wp2
   go_ret
   exact ⟨by first | rfl | (simp [errW_none, errW_some] <;> rfl) | (simp [*, errW_none, errW_some] <;> rfl), by repeat (first | (with_reducible first | exact HB.out | apply below_alloc | apply pw_below_drewN | apply below_drew1 | refine below_set ?_ GE151.out) | exact HB.out)⟩
 ·replace c3 := Bool.eq_false_iff.mpr c3
  subst c3
  have H1 : (some false) = some r := by rw [if_neg (show ¬ (false = true) by decide)] at H; exact H
  clear H
  have H := H1
  clear H1
  obtain rfl := Option.some.inj H
  go_enter Try.func13, Try.ntmps13
  try go_wp2_with (first | ((with_reducible refine gate_dst (N := 1) rfl ?_); refine box_event ?hg (N := 1) ?hd (cs := #[.slice A0_0 l0_0.length c0_0, .int .i64 a0_1, .int .i64 a0_2, .int .i64 a0_3, .bool a0_4]) (t := 26) ?hr ?_; (case hd => rfl); (case hg => rfl); (case hr => first | (go_simp; done) | (go_simp; rfl)); intro gb151 hg w21 hbox hb; have n0_ := aA (below_step mB hb); have n1_ := aA (hbox); have n2_ := aA ((bZ hg mB)); have n3_ := aA ((bZ hg mB)); clear HB; have HB := n0_; have BK151 := n1_; have GW151 := n2_; have GE151 := n3_; clear n0_ n1_ n2_ n3_ hb hbox hg))
  have n0_ := aA (blk_drew BK151.out)
  have n1_ := aA (below_drew1 HB.out)
  clear BK151
  clear HB
  have BK151 := n0_
  have HB := n1_
  clear n0_ n1_
  refine start_ (n := 24) (S := fun w' => w'.cell? ⟨gb151, 0, none⟩ = some (.slice A0_0 l0_0.length c0_0) ∧ w'.cell? ⟨gb151, 1, none⟩ = some (.int .i64 a0_1) ∧ w'.cell? ⟨gb151, 2, none⟩ = some (.int .i64 a0_2) ∧ w'.cell? ⟨gb151, 3, none⟩ = some (.int .i64 a0_3) ∧ w'.cell? ⟨gb151, 4, none⟩ = some (.bool a0_4)) (ds := []) #[false, false, false, false, false, false, false, false, false, false, false, false, false, false, false, false, false, false, false, false, false, false, false, false] (by kernel_rfl) rfl rfl (bC5 BK151.out) (fun hHeld => ?_); refine with_tabW store_Right.tab1 store_Right.bits1 (fun HT_ HW_ => ?_)
  generalize w21.drew = w22 at BK151 HB hHeld ⊢
  refine pure_ (i := 0) (N := some 3) (v := ?_) (a' := ?_) #[true, false, false, false, false, false, false, false, false, false, false, false, false, false, false, false, false, false, false, false, false, false, false, false] rfl rfl (any_of HT_.out (by kernel_rfl)) (fun _ _ _ h => h) (Or.inl ⟨by rfl, ?_⟩) ?_ ?_
  rotate_left
  ·intro w'
   go_simp
   with_reducible rfl
  rotate_left
  ·exact mP
  refine take_ (i := 1) (N := some 4) (v := ?_) (a' := ?_) #[true, true, false, false, false, false, false, false, false, false, false, false, false, false, false, false, false, false, false, false, false, false, false, false] rfl rfl (take_ofW HT_.out HW_.out (by kernel_rfl)) (fun _ _ _ h => h) (Or.inl ⟨by rfl, ?_⟩) hHeld ?_ ?_
  rotate_left
  ·rintro w' ⟨s0, s1, s2, s3, s4⟩
   go_simp
   with_reducible rfl
  rotate_left
  ·exact mP
  refine one_ (i := 2) (N := some 5) #[true, true, true, false, false, false, false, false, false, false, false, false, false, false, false, false, false, false, false, false, false, false, false, false] rfl rfl (one_of HT_.out (by kernel_rfl)) (by decide) (fun K hK => ?_)
  refine goes_ Try.func35 (by kernel_rfl) rfl #[.agg #[.slice A0_0 l0_0.length c0_0]] (by rfl) rfl rfl mS ?_
  with_reducible refine (store_hasLog.calls _ _ l0_0 false _ ?side1 ?side2 A2.out).mono ?_
  (case side1 => exact mC ((Kd.C_below HR0_0.out HB.out)))
  (case side2 => exact HC0_0.out)
  rintro e w23 ⟨rfl, hb⟩
  refine ⟨_, rfl, ?_⟩
  have n0_ := aA (bB BK151.out hb)
  have n1_ := aA (below_step (mD1 GE151.out) hb)
  clear BK151
  clear HB
  have BK151 := n0_
  have HB := n1_
  clear n0_ n1_
  (try clear hb)
  (try clear hb2)
  (try clear hk)
  (try clear hi)
  refine hK.out _ _ (bC5 BK151.out) (fun hHeld => ?_)
  clear hK K
  refine norm_ (a' := ?_) ?_ ?_
  rotate_left
  ·show Act.put _ (some 5) _ = _
   simp only [Act.put, List.setIfInBounds_toArray, List.set_cons_zero, List.set_cons_succ, i64_w, i32_w]
   rfl
  refine pure_ (i := 3) (N := some 6) (v := ?_) (a' := ?_) #[true, true, true, true, false, false, false, false, false, false, false, false, false, false, false, false, false, false, false, false, false, false, false, false] rfl rfl (any_of HT_.out (by kernel_rfl)) (fun _ _ _ h => h) (Or.inl ⟨by rfl, ?_⟩) ?_ ?_
  rotate_left
  ·intro w'
   go_simp
   with_reducible rfl
  rotate_left
  ·exact mP
  refine pure_ (i := 4) (N := some 7) (v := undef) (a' := ?_) #[true, true, true, true, true, false, false, false, false, false, false, false, false, false, false, false, false, false, false, false, false, false, false, false] rfl rfl (any_of HT_.out (by kernel_rfl)) (fun _ _ _ h => h) (Or.inr ⟨by rfl, rfl⟩) ?_ ?_
  rotate_left
  ·exact mP
  refine pure_ (i := 5) (N := some 8) (v := undef) (a' := ?_) #[true, true, true, true, true, true, false, false, false, false, false, false, false, false, false, false, false, false, false, false, false, false, false, false] rfl rfl (any_of HT_.out (by kernel_rfl)) (fun _ _ _ h => h) (Or.inr ⟨by rfl, rfl⟩) ?_ ?_
  rotate_left
  ·exact mP
  refine pure_ (i := 6) (N := some 9) (v := undef) (a' := ?_) #[true, true, true, true, true, true, true, false, false, false, false, false, false, false, false, false, false, false, false, false, false, false, false, false] rfl rfl (any_of HT_.out (by kernel_rfl)) (fun _ _ _ h => h) (Or.inr ⟨by rfl, rfl⟩) ?_ ?_
  rotate_left
  ·exact mP
  refine pure_ (i := 7) (N := some 10) (v := ?_) (a' := ?_) #[true, true, true, true, true, true, true, true, false, false, false, false, false, false, false, false, false, false, false, false, false, false, false, false] rfl rfl (any_of HT_.out (by kernel_rfl)) (fun _ _ _ h => h) (Or.inl ⟨by rfl, ?_⟩) ?_ ?_
  rotate_left
  ·intro w'
   go_simp
   with_reducible rfl
  rotate_left
  ·exact mP
  refine pure_ (i := 8) (N := some 11) (v := ?_) (a' := ?_) #[true, true, true, true, true, true, true, true, true, false, false, false, false, false, false, false, false, false, false, false, false, false, false, false] rfl rfl (any_of HT_.out (by kernel_rfl)) (fun _ _ _ h => h) (Or.inl ⟨by rfl, ?_⟩) ?_ ?_
  rotate_left
  ·intro w'
   go_simp
   with_reducible rfl
  rotate_left
  ·exact mP
  refine pure_ (i := 9) (N := some 12) (v := undef) (a' := ?_) #[true, true, true, true, true, true, true, true, true, true, false, false, false, false, false, false, false, false, false, false, false, false, false, false] rfl rfl (any_of HT_.out (by kernel_rfl)) (fun _ _ _ h => h) (Or.inr ⟨by rfl, rfl⟩) ?_ ?_
  rotate_left
  ·exact mP
  refine pure_ (i := 10) (N := some 13) (v := undef) (a' := ?_) #[true, true, true, true, true, true, true, true, true, true, true, false, false, false, false, false, false, false, false, false, false, false, false, false] rfl rfl (any_of HT_.out (by kernel_rfl)) (fun _ _ _ h => h) (Or.inr ⟨by rfl, rfl⟩) ?_ ?_
  rotate_left
  ·exact mP
  refine pure_ (i := 11) (N := some 14) (v := undef) (a' := ?_) #[true, true, true, true, true, true, true, true, true, true, true, true, false, false, false, false, false, false, false, false, false, false, false, false] rfl rfl (any_of HT_.out (by kernel_rfl)) (fun _ _ _ h => h) (Or.inr ⟨by rfl, rfl⟩) ?_ ?_
  rotate_left
  ·exact mP
  refine pure_ (i := 12) (N := some 15) (v := undef) (a' := ?_) #[true, true, true, true, true, true, true, true, true, true, true, true, true, false, false, false, false, false, false, false, false, false, false, false] rfl rfl (any_of HT_.out (by kernel_rfl)) (fun _ _ _ h => h) (Or.inr ⟨by rfl, rfl⟩) ?_ ?_
  rotate_left
  ·exact mP
  refine pure_ (i := 13) (N := some 16) (v := undef) (a' := ?_) #[true, true, true, true, true, true, true, true, true, true, true, true, true, true, false, false, false, false, false, false, false, false, false, false] rfl rfl (any_of HT_.out (by kernel_rfl)) (fun _ _ _ h => h) (Or.inr ⟨by rfl, rfl⟩) ?_ ?_
  rotate_left
  ·exact mP
  refine pure_ (i := 14) (N := some 17) (v := undef) (a' := ?_) #[true, true, true, true, true, true, true, true, true, true, true, true, true, true, true, false, false, false, false, false, false, false, false, false] rfl rfl (any_of HT_.out (by kernel_rfl)) (fun _ _ _ h => h) (Or.inr ⟨by rfl, rfl⟩) ?_ ?_
  rotate_left
  ·exact mP
  refine pure_ (i := 15) (N := some 18) (v := ?_) (a' := ?_) #[true, true, true, true, true, true, true, true, true, true, true, true, true, true, true, true, false, false, false, false, false, false, false, false] rfl rfl (any_of HT_.out (by kernel_rfl)) (fun _ _ _ h => h) (Or.inl ⟨by rfl, ?_⟩) ?_ ?_
  rotate_left
  ·intro w'
   go_simp
   with_reducible rfl
  rotate_left
  ·exact mP
  refine pure_ (i := 16) (N := some 19) (v := ?_) (a' := ?_) #[true, true, true, true, true, true, true, true, true, true, true, true, true, true, true, true, true, false, false, false, false, false, false, false] rfl rfl (any_of HT_.out (by kernel_rfl)) (fun _ _ _ h => h) (Or.inl ⟨by rfl, ?_⟩) ?_ ?_
  rotate_left
  ·intro w'
   go_simp
   with_reducible rfl
  rotate_left
  ·exact mP
  refine pure_ (i := 17) (N := some 20) (v := undef) (a' := ?_) #[true, true, true, true, true, true, true, true, true, true, true, true, true, true, true, true, true, true, false, false, false, false, false, false] rfl rfl (any_of HT_.out (by kernel_rfl)) (fun _ _ _ h => h) (Or.inr ⟨by rfl, rfl⟩) ?_ ?_
  rotate_left
  ·exact mP
  refine pure_ (i := 18) (N := some 21) (v := undef) (a' := ?_) #[true, true, true, true, true, true, true, true, true, true, true, true, true, true, true, true, true, true, true, false, false, false, false, false] rfl rfl (any_of HT_.out (by kernel_rfl)) (fun _ _ _ h => h) (Or.inr ⟨by rfl, rfl⟩) ?_ ?_
  rotate_left
  ·exact mP
  refine pure_ (i := 19) (N := some 22) (v := undef) (a' := ?_) #[true, true, true, true, true, true, true, true, true, true, true, true, true, true, true, true, true, true, true, true, false, false, false, false] rfl rfl (any_of HT_.out (by kernel_rfl)) (fun _ _ _ h => h) (Or.inr ⟨by rfl, rfl⟩) ?_ ?_
  rotate_left
  ·exact mP
  refine pure_ (i := 20) (N := some 23) (v := undef) (a' := ?_) #[true, true, true, true, true, true, true, true, true, true, true, true, true, true, true, true, true, true, true, true, true, false, false, false] rfl rfl (any_of HT_.out (by kernel_rfl)) (fun _ _ _ h => h) (Or.inr ⟨by rfl, rfl⟩) ?_ ?_
  rotate_left
  ·exact mP
  refine pure_ (i := 21) (N := some 24) (v := undef) (a' := ?_) #[true, true, true, true, true, true, true, true, true, true, true, true, true, true, true, true, true, true, true, true, true, true, false, false] rfl rfl (any_of HT_.out (by kernel_rfl)) (fun _ _ _ h => h) (Or.inr ⟨by rfl, rfl⟩) ?_ ?_
  rotate_left
  ·exact mP
  refine pure_ (i := 22) (N := some 25) (v := ?_) (a' := ?_) #[true, true, true, true, true, true, true, true, true, true, true, true, true, true, true, true, true, true, true, true, true, true, true, false] rfl rfl (any_of HT_.out (by kernel_rfl)) (fun _ _ _ h => h) (Or.inl ⟨by rfl, ?_⟩) ?_ ?_
  rotate_left
  ·intro w'
   go_simp
   with_reducible rfl
  rotate_left
  ·exact mP
  refine pure_ (i := 23) (N := some 2) (v := ?_) (a' := ?_) #[true, true, true, true, true, true, true, true, true, true, true, true, true, true, true, true, true, true, true, true, true, true, true, true] rfl rfl (any_of HT_.out (by kernel_rfl)) (fun _ _ _ h => h) (Or.inl ⟨by rfl, ?_⟩) ?_ ?_
  rotate_left
  ·intro w'
   go_simp
   with_reducible rfl
  rotate_left
  ·exact mP
  refine done_ (done_of HT_.out (by kernel_rfl)) ?_
  try go_wp2
  go_ret
  exact ⟨by first | rfl | (simp [errW_none, errW_some] <;> rfl) | (simp [*, errW_none, errW_some] <;> rfl), by repeat (first | (with_reducible first | exact HB.out | apply below_alloc | apply pw_below_drewN | apply below_drew1 | refine below_set ?_ GE151.out) | exact HB.out)⟩
end Go.Proofs.YtopaddpclipnjaaQ.P
namespace Go.Proofs.Ytopaddpclipnjaa
open Go.RowKit
structure Flt where
  kind : Int
  k : Int
deriving DecidableEq
def fltC (x : Flt) : List Value := [.int .i64 x.kind, .int .i64 x.k]
def fltV (x : Flt) : Value := .agg #[.int .i64 x.kind, .int .i64 x.k]
def fltsC (xs : List Flt) : List Value := xs.flatMap fltC
theorem flts_get (xs : List Flt) (i : Nat) (h : i < xs.length) : (fltsC xs)[i * 2]? = some (.int .i64 xs[i].kind) ∧ (fltsC xs)[i * 2 + 1]? = some (.int .i64 xs[i].k) :=
  ⟨flat_get (en := fltC) (sz := 2) (fun _ => rfl) xs i 0 h (by omega), flat_get (en := fltC) (sz := 2) (fun _ => rfl) xs i 1 h (by omega)⟩
def fltB (x : Flt) : Bool := decide (0 ≤ x.kind) && decide (x.kind ≤ 2) && decide (0 ≤ x.k) && decide (x.k ≤ 128)
end Go.Proofs.Ytopaddpclipnjaa
namespace Go.Proofs.Ytopaddpclipnjaa
open Go.RowKit
attribute [local go_sem high] ext_size ext_cell ext_frozen alloc_cell alloc_frozen
def PredF (f : FuncId) (caps : Array Value) (w : World) (p : Flt → Bool) (xs : List Flt) : Prop :=
  ∀ x ∈ xs, ∀ W, Below w.heap.size w W → Calls Try.prog f (#[fltV x] ++ caps) W fun e W' => e = .returned (.bool (p x)) ∧ Below W.heap.size W W'
theorem indexFuncF (v : Value) (xs : List Flt) (f : FuncId) (caps : Array Value) (p : Flt → Bool) (w : World) (hS : SlAt w v 2 xs.length (fltsC xs)) (hp : PredF f caps w p xs) (hf : Enters Try.prog f) :
    Calls Try.prog 85 #[v, .func (.func f) #[] caps] w fun e w' => e = .returned (.int .i64 (idxOf p xs)) ∧ Below w.heap.size w w' := by
  obtain ⟨a, c, rfl, hnc, hcm⟩ := hS.form
  have hm := hS.le
  have HS := Lib.hid hS
  have HP := Lib.hid hp
  clear hS hp
  unfold maxLen at hm
  go_enter Try.func85, Try.ntmps85
  go_wp2
  go_loopw [5, 8] (fun _ i wr => ∃ k : Nat, k ≤ xs.length ∧ i = .int .i64 k ∧ (∀ j (hj : j < xs.length), j < k → p xs[j] = false) ∧ Below w.heap.size w wr) (fun _ i _ => xs.length - (intOf i).toNat)
  case atStart => exact ⟨0, Nat.zero_le _, rfl, fun j _ hj => absurd hj (by omega), Below.refl _ _⟩
  case round =>
    obtain ⟨k, hk, rfl, hno, hbel⟩ := hrel
    have HN := Lib.hid hno
    clear hno
    obtain ⟨xr, rfl⟩ := ext_of hbel
    by_cases hlt : k < xs.length
    · obtain ⟨b, o, rfl, hbl, hcell⟩ := HS.out.at (by omega)
      have hg := flts_get xs k hlt
      have hck0 : w.cell? ⟨b, o + k * 2, none⟩ = some (.int .i64 xs[k].kind) := by exact hcell _ _ hg.1
      have hck1 : w.cell? ⟨b, o + k * 2 + 1, none⟩ = some (.int .i64 xs[k].k) := by rw [Nat.add_assoc]; exact hcell _ _ hg.2
      clear hcell hg
      have hcall : Calls Try.prog f (#[Value.agg #[.int .i64 xs[k].kind, .int .i64 xs[k].k]] ++ caps) (ext w xr) fun e W' => e = .returned (.bool (p xs[k])) ∧ Below (ext w xr).heap.size (ext w xr) W' := HP.out xs[k] (List.getElem_mem hlt) (ext w xr) hbel
      have he := hf (#[Value.agg #[.int .i64 xs[k].kind, .int .i64 xs[k].k]] ++ caps) (ext w xr)
      cases hpx : p xs[k]
      all_goals
        rw [hpx] at hcall
        have HX := Lib.hid hpx
        have HC := Lib.hid hcall
        clear hpx hcall hbel
        go_wp2_with (refine Calls.mono HC.out ?_; rintro e w1 ⟨rfl, hb1⟩)
      · refine ⟨⟨k + 1, by omega, by go_num, fun j hj hjk => ?_, bel (ext_bel w xr) hb1⟩, by simp [intOf]; omega⟩
        rcases Nat.lt_succ_iff_lt_or_eq.1 hjk with h | rfl
        · exact HN.out j hj h
        · exact HX.out
      · go_ret
        exact ⟨ret_int (idxOf_found hlt HX.out fun j hj => HN.out j (by omega) hj).symm, bel (ext_bel w xr) hb1⟩
    · obtain rfl : k = xs.length := by omega
      go_wp2
      go_ret
      exact ⟨ret_int (idxOf_none fun j hj => HN.out j hj hj).symm, ext_bel w xr⟩
theorem containsFuncF (v : Value) (xs : List Flt) (f : FuncId) (caps : Array Value) (p : Flt → Bool) (w : World) (hS : SlAt w v 2 xs.length (fltsC xs)) (hp : PredF f caps w p xs) (hf : Enters Try.prog f) :
    Calls Try.prog 67 #[v, .func (.func f) #[] caps] w fun e w' => e = .returned (.bool (xs.any p)) ∧ Below w.heap.size w w' := by
  have hi := Lib.hid (idxOf_any p xs)
  have HI := Lib.hid (indexFuncF v xs f caps p w hS hp hf)
  obtain ⟨a, c, rfl, hnc, hcm⟩ := hS.form
  clear hp hS
  go_enter Try.func67, Try.ntmps67
  go_wp2_with fail
  refine HI.out.mono ?_
  rintro e w1 ⟨rfl, hb1⟩
  go_wp2
  go_ret
  exact ⟨ret_bool hi.out, hb1⟩
end Go.Proofs.Ytopaddpclipnjaa
namespace Go.Proofs.Ytopaddpclipnjaa
open Go.RowKit
abbrev stopV (k : Int) : Value := .iface 96 (.agg #[.int .i64 k])
theorem assert_yes (W : World) (v : Value) : (Instr.typeAssert (.iface 96 v) 20 96 true).run Try.prog W = .ok (.tuple #[v, .bool true]) W := by kernel_rfl
theorem stop1_idle (p : Addr) (w : World) :
    CallsD Try.prog 72 #[.pointer (some p)] .returning w fun e u' w' => e = .returned (.tuple #[]) ∧ u' = .returning ∧ w' = w := by
  refine callsD_of_wpS Try.func72 rfl fun c₀ cs hu => ?_
  apply wpS_seq
  apply wpS_region
  simp [wpOpsS, go_sem, recoverD, hu, Try.ntmps72, Exit.thenS]
  apply wpS_seq
  apply wpS_region
  simp [wpOpsS, go_sem, Exit.thenS]
  refine wpS_cond (t := false) (by simp [Act.eval, Array.replicate]) ?_
  simp only [Bool.false_eq_true, if_false]
  refine wpS_of_wp (wp_skip ?_)
  cases c₀
  simp_all [bodyPostS, results, Try.results72]
set_option maxRecDepth 100000 in
theorem stop1_catch (g : Nat) (k x : Int) (older : List PanicEntry) (w : World) (hb : w.heap[g]? = some (.cells #[.int .i64 x] 29 (0, 0))) :
    CallsD Try.prog 72 #[.pointer (some ⟨g, 0, none⟩)] (.panicking ({ v := stopV k, recovered := false } :: older)) w fun e u' w' =>
      e = .returned (.tuple #[]) ∧ u' = .panicking ({ v := stopV k, recovered := true } :: older) ∧ w' = (w.alloc (.cells #[.int .i64 k] 96)).setCell ⟨g, 0, none⟩ (.int .i64 k) := by
  refine callsD_of_wpS Try.func72 rfl fun c₀ cs hu => ?_
  apply wpS_seq
  apply wpS_region
  simp [wpOpsS, go_sem, recoverD, hu, Try.ntmps72, Exit.thenS]
  apply wpS_seq
  apply wpS_region
  simp [wpOpsS, go_sem, Exit.thenS]
  refine wpS_cond (t := true) (by simp [Act.eval, Array.replicate]) ?_
  simp only [if_true]
  refine wpS_of_wp ?_
  rw [show (#[Value.pointer (some ⟨g, 0, none⟩)] ++ ((((Array.replicate 16 undef).setIfInBounds 3 (stopV k)).setIfInBounds 0 (stopV k)).setIfInBounds 4 (stopV k)).setIfInBounds 5 (Value.bool true)) = #[.pointer (some ⟨g, 0, none⟩), stopV k, undef, undef, stopV k, stopV k, .bool true, undef, undef, undef, undef, undef, undef, undef, undef, undef, undef] by kernel_rfl]
  have hta := assert_yes
  have hc := fun o => blk_cell (blk_alloc o hb) (j := 0) rfl
  have hz := fun o => blk_free (blk_alloc o hb) 0
  go_wp2
  simp [bodyPostS, results, Try.results72]
theorem stop_ret (f : FuncId) (caps : Array Value) (w : World) (Φ : World → Prop) (he : Enters Try.prog f)
    (hf : Calls Try.prog f caps (w.alloc (.cells #[.int .i64 0] 29)) fun e w' => e = .returned (.tuple #[]) ∧ w'.heap[w.heap.size]? = some (.cells #[.int .i64 0] 29 (0, 0)) ∧ Φ w') :
    Calls Try.prog 48 #[.func (.func f) #[] caps] w fun e w' => ∃ w1, Φ w1 ∧ e = .returned (.int .i64 0) ∧ w' = w1.setCell ⟨w.heap.size, 0, none⟩ (.int .i64 0) := by
  have hmf : ∀ (fn : Fn) (first cap : Array Value) (w : World), (Instr.makeFunc fn first cap).run Try.prog w = .ok (.func fn first cap) w := fun _ _ _ _ => rfl
  have hen := he caps (w.alloc (.cells #[.int .i64 0] 29))
  go_enter_defers Try.func48, Try.ntmps48
  go_wp2_with (refine Calls.mono hf ?_; rintro e w1 ⟨rfl, hb, hφ⟩; have hc := blk_cell hb (j := 0) rfl; have hz := blk_free hb 0)
  refine leaves_cons (f := 72) (args := #[.pointer (some ⟨w.heap.size, 0, none⟩)]) (by simp) (by simp [go_sem]) ?_
  refine (stop1_idle ⟨w.heap.size, 0, none⟩ _).mono ?_
  rintro e u' w'' ⟨rfl, rfl, rfl⟩
  simp [Leaves, settle, results, Try.results48, go_sem, hc]
  exact ⟨w1, hφ, rfl⟩
theorem stop_pan (f : FuncId) (caps : Array Value) (k : Int) (w : World) (Φ : World → Prop) (he : Enters Try.prog f)
    (hf : Calls Try.prog f caps (w.alloc (.cells #[.int .i64 0] 29)) fun e w' => e = .panicked [{ v := stopV k, recovered := false }] ∧ w'.heap[w.heap.size]? = some (.cells #[.int .i64 0] 29 (0, 0)) ∧ Φ w') :
    Calls Try.prog 48 #[.func (.func f) #[] caps] w fun e w' => ∃ w1, Φ w1 ∧ e = .returned (.int .i64 k) ∧ w' = (w1.alloc (.cells #[.int .i64 k] 96)).setCell ⟨w.heap.size, 0, none⟩ (.int .i64 k) := by
  have hmf : ∀ (fn : Fn) (first cap : Array Value) (w : World), (Instr.makeFunc fn first cap).run Try.prog w = .ok (.func fn first cap) w := fun _ _ _ _ => rfl
  have hen := he caps (w.alloc (.cells #[.int .i64 0] 29))
  go_enter_defers Try.func48, Try.ntmps48
  go_wp2_with (refine Calls.mono hf ?_; rintro e w1 ⟨rfl, hb, hφ⟩)
  refine leaves_cons (f := 72) (args := #[.pointer (some ⟨w.heap.size, 0, none⟩)]) (by simp) (by simp [go_sem]) ?_
  refine (stop1_catch w.heap.size k 0 [] _ hb).mono ?_
  rintro e u' w'' ⟨rfl, rfl, rfl⟩
  have hc := fun o => blk_cell (blk_alloc o hb) (j := 0) rfl
  simp [Leaves, settle, results, Try.results48, go_sem, hc]
  exact ⟨w1, hφ, rfl⟩
theorem gr_bel {w w' : World} {row : Option Nat} (h : Below w.heap.size w w') : w.grownBy w' row := ⟨h.os, h.tape, h.output, h.size, fun i hi _ => h.block i hi⟩
theorem gr_set4 {w w1 : World} {g j : Nat} (h : w.grownBy w1 (some g)) (v : Value) : w.grownBy (w1.setCell ⟨g, j, none⟩ v) (some g) := by
  have key : w1.grownBy (w1.setCell ⟨g, j, none⟩ v) (some g) := ⟨rfl, rfl, rfl, by simp [World.setCell], fun i _ hne => by
    have : i ≠ g := fun h => hne (by rw [h])
    exact Below.heap_setCell w1 _ v i this⟩
  exact h.trans key
abbrev SC (v : Value) (gen used top : Int) (down : Bool) : Array Value := #[v, .int .i64 gen, .int .i64 used, .int .i64 top, .bool down]
theorem swrite_ok (g : Nat) (v : Value) (xs : List ByteArray) (gen used top : Int) (down : Bool) (at_ gn no : Int) (p : ByteArray) (fk fK : Int) (w : World)
    (hB : w.heap[g]? = some (.cells (SC v gen used top down) 26 (0, 0))) (hS : SlAt w v 1 xs.length (strs xs)) (hne : ∀ b, v.ownBlock = some b → b ≠ g) (h1 : fk ≠ 1) (h2 : fk ≠ 2) :
    Calls Try.prog 50 #[.pointer (some ⟨g, 0, none⟩), .int .i64 at_, .int .i64 gn, .int .i64 no, .string p, .agg #[.int .i64 fk, .int .i64 fK]] w fun e w' =>
      ∃ v', e = .returned (.tuple #[]) ∧ w'.heap[g]? = some (.cells (SC v' gen used top down) 26 (0, 0)) ∧ SlAt w' v' 1 (tearL xs at_ (sealS gn no p) 128).length (strs (tearL xs at_ (sealS gn no p) 128)) ∧ FreshV w.heap.size v' ∧ w.grownBy w' (some g) := by
  obtain ⟨a, c, rfl, hnc, hcm⟩ := hS.form
  obtain ⟨t, ht⟩ : ∃ t, t = sealS gn no p := ⟨_, rfl⟩
  have hs := fun W => seal_any gn no p W
  rw [← ht] at hs ⊢
  have HS := Lib.hid hs
  clear hs ht
  have hw := fun W (h : SlAt W (Value.slice a xs.length c) 1 xs.length (strs xs)) => write_any _ xs at_ t W h
  obtain ⟨ys, hys⟩ : ∃ ys, ys = tearL xs at_ t 128 := ⟨_, rfl⟩
  obtain ⟨eE, heE⟩ : ∃ eE, eE = tearE xs at_ t 128 := ⟨_, rfl⟩
  rw [← hys] at hw ⊢
  rw [← heE] at hw
  have HW := Lib.hid hw
  have HSl := Lib.hid hS
  have HB := Lib.hid hB
  have e1 : (fk == 1) = false := by simpa using h1
  have e2 : (fk == 2) = false := by simpa using h2
  clear hw hS hB h1 h2
  clear hys heE
  go_enter Try.func50, Try.ntmps50
  go_wp2_with (first
    | (go_at_call 33; refine (HS.out _).mono ?_; rintro e w1 ⟨rfl, hb1⟩; have K1 := Lib.hid (blk_call hb1 (blk_new w (.cells #[.int .i64 fk, .int .i64 fK] 45))); have c1 := blk_cell K1.out (j := 0) rfl; have z1 := blk_free K1.out 0; have G1 := Lib.hid (blk_call hb1 (blk_alloc _ HB.out)); have c2 := blk_cell G1.out (j := 0) rfl; have z2 := blk_free G1.out 0)
    | (go_at_call 34; refine (HW.out _ (HSl.out.stay (bel (bal (Below.refl _ _) _) hb1))).mono ?_; rintro e w2 ⟨v2, rfl, hv2, hf2, hb2⟩; obtain ⟨a2, c2', rfl, hn2, hm2⟩ := hv2.form; have HV2 := Lib.hid hv2; have G2 := Lib.hid (blk_call hb2 G1.out); have c3 := blk_cell G2.out (j := 0) rfl; have z3 := blk_free G2.out 0; clear hv2))
  go_end0
  have hw2 := bel (bel (bal (Below.refl w.heap.size w) (.cells #[.int .i64 fk, .int .i64 fK] 45)) hb1) hb2
  have hg : g < w.heap.size := blk_lt HB.out
  have hsz : w.heap.size ≤ w1.heap.size := (bel (bal (Below.refl w.heap.size w) (.cells #[.int .i64 fk, .int .i64 fK] 45)) hb1).size
  exact ⟨.slice a2 _ c2', rfl, blk_set G2.out 0 _, HV2.out.store (p := ⟨g, 0, none⟩) (fun b hb => by have := hf2 b hb; show b ≠ g; omega) _, hf2.mono hsz, gr_set4 (gr_bel hw2) _⟩
theorem swrite_fail (g : Nat) (v : Value) (gen used top : Int) (down : Bool) (at_ gn no : Int) (p : ByteArray) (fK : Int) (w : World)
    (hB : w.heap[g]? = some (.cells (SC v gen used top down) 26 (0, 0))) :
    Calls Try.prog 50 #[.pointer (some ⟨g, 0, none⟩), .int .i64 at_, .int .i64 gn, .int .i64 no, .string p, .agg #[.int .i64 1, .int .i64 fK]] w fun e w' =>
      e = .panicked [{ v := stopV 8, recovered := false }] ∧ Below w.heap.size w w' := by
  obtain ⟨t, ht⟩ : ∃ t, t = sealS gn no p := ⟨_, rfl⟩
  have hs := fun W => seal_any gn no p W
  rw [← ht] at hs
  have HS := Lib.hid hs
  clear hs ht
  go_enter Try.func50, Try.ntmps50
  go_wp2_with (first
    | (go_at_call 33; refine (HS.out _).mono ?_; rintro e w1 ⟨rfl, hb1⟩; have K1 := Lib.hid (blk_call hb1 (blk_new w (.cells #[.int .i64 1, .int .i64 fK] 45))); have c1 := blk_cell K1.out (j := 0) rfl; have z1 := blk_free K1.out 0))
  exact ⟨rfl, rfl, bel (bal (Below.refl _ _) _) hb1⟩
theorem swrite_crash (g : Nat) (v : Value) (xs : List ByteArray) (gen used top : Int) (down : Bool) (at_ gn no : Int) (p : ByteArray) (fK : Int) (w : World)
    (hB : w.heap[g]? = some (.cells (SC v gen used top down) 26 (0, 0))) (hS : SlAt w v 1 xs.length (strs xs)) (hne : ∀ b, v.ownBlock = some b → b ≠ g) :
    Calls Try.prog 50 #[.pointer (some ⟨g, 0, none⟩), .int .i64 at_, .int .i64 gn, .int .i64 no, .string p, .agg #[.int .i64 2, .int .i64 fK]] w fun e w' =>
      ∃ v', e = .panicked [{ v := stopV 9, recovered := false }] ∧ w'.heap[g]? = some (.cells (SC v' gen used top true) 26 (0, 0)) ∧ SlAt w' v' 1 (tearL xs at_ (sealS gn no p) fK).length (strs (tearL xs at_ (sealS gn no p) fK)) ∧ FreshV w.heap.size v' ∧ w.grownBy w' (some g) := by
  obtain ⟨a, c, rfl, hnc, hcm⟩ := hS.form
  obtain ⟨t, ht⟩ : ∃ t, t = sealS gn no p := ⟨_, rfl⟩
  have hs := fun W => seal_any gn no p W
  rw [← ht] at hs ⊢
  have HS := Lib.hid hs
  clear hs ht
  have hw := fun W (h : SlAt W (Value.slice a xs.length c) 1 xs.length (strs xs)) => tear_any _ xs at_ t fK W h
  obtain ⟨ys, hys⟩ : ∃ ys, ys = tearL xs at_ t fK := ⟨_, rfl⟩
  obtain ⟨eE, heE⟩ : ∃ eE, eE = tearE xs at_ t fK := ⟨_, rfl⟩
  rw [← hys] at hw ⊢
  rw [← heE] at hw
  have HW := Lib.hid hw
  have HSl := Lib.hid hS
  have HB := Lib.hid hB
  clear hw hS hB
  clear hys heE
  go_enter Try.func50, Try.ntmps50
  go_wp2_with (first
    | (go_at_call 33; refine (HS.out _).mono ?_; rintro e w1 ⟨rfl, hb1⟩; have K1 := Lib.hid (blk_call hb1 (blk_new w (.cells #[.int .i64 2, .int .i64 fK] 45))); have c1 := blk_cell K1.out (j := 0) rfl; have z1 := blk_free K1.out 0; have c1b := blk_cell K1.out (j := 1) rfl; have z1b := blk_free K1.out 1; have G1 := Lib.hid (blk_call hb1 (blk_alloc _ HB.out)); have c2 := blk_cell G1.out (j := 0) rfl; have z2 := blk_free G1.out 0)
    | fail)
  have hd : SlAt w1.drew (Value.slice a xs.length c) 1 xs.length (strs xs) := HSl.out.stay (bdn (bel (bal (Below.refl _ _) _) hb1) 1)
  have gd : w1.drew.heap[g]? = some (.cells (SC (.slice a xs.length c) gen used top down) 26 (0, 0)) := G1.out
  have hcall := HW.out w1.drew hd
  go_region_law (go_simp; go_at_call 59; refine hcall.mono ?_; rintro e w2 ⟨v2, rfl, hv2, hf2, hb2⟩; obtain ⟨a2, c2', rfl, hn2, hm2⟩ := hv2.form; have HV2 := Lib.hid hv2; have G2 := Lib.hid (blk_call hb2 gd); have c3 := blk_cell G2.out (j := 0) rfl; have z3 := blk_free G2.out 0; clear hv2)
  all_goals
    have G3 := Lib.hid (blk_set G2.out 0 (Value.slice a2 ys.length c2'))
    have c5 : (w2.setCell ⟨g, 0, none⟩ (Value.slice a2 ys.length c2')).cell? ⟨g, 4, none⟩ = some (.bool down) := blk_cell G3.out (j := 4) rfl
    have z5 := blk_free G3.out 4
    go_wp2
    have hw1 := bdn (bel (bal (Below.refl w.heap.size w) (.cells #[.int .i64 2, .int .i64 fK] 45)) hb1) 1
    have hw2 := bel hw1 hb2
    have hg : g < w.heap.size := blk_lt HB.out
    have hsz : w.heap.size ≤ w1.drew.heap.size := hw1.size
    have hs0 := HV2.out.store (p := ⟨g, 0, none⟩) (fun b hb => by have := hf2 b hb; show b ≠ g; omega) (.slice a2 ys.length c2')
    exact ⟨rfl, .slice a2 ys.length c2', rfl, blk_set G3.out 4 _, hs0.store (p := ⟨g, 4, none⟩) (fun b hb => by have := hf2 b hb; show b ≠ g; omega) _, hf2.mono hsz, gr_set4 (gr_set4 (gr_bel hw2) _) _⟩
end Go.Proofs.Ytopaddpclipnjaa
namespace Go.Proofs.Ytopaddpclipnjaa
open Go.RowKit
structure Sto where
  xs : List ByteArray
  gen : Int
  used : Int
  top : Int
  down : Bool
def areaD (xs : List ByteArray) : Int := (xs.length : Int) / 2 - 1
def logB (xs : List ByteArray) : Bool := rightD xs && decide ((xs.length : Int) % 2 = 0)
def inB (n lo hi : Int) : Bool := decide (lo ≤ n) && decide (n ≤ hi)
def Sto.okB (s : Sto) : Bool := logB s.xs && (inB s.gen 1 250 && (inB s.used 0 (areaD s.xs) && inB s.top s.gen 250))
def mayS (s : Sto) (l : List ByteArray) (fs : List Flt) : Int :=
  if (!s.okB || fs.any fun f => !fltB f) = true then 1 else if (l.any fun p => decide (96 < p.size)) = true then 2 else if s.down = true then 9 else 0
def Sto.val (s : Sto) (v : Value) : Value := .agg (SC v s.gen s.used s.top s.down)
theorem in_any (n lo hi : Int) (w : World) : Calls Try.prog 39 #[.int .i64 n, .int .i64 lo, .int .i64 hi] w fun e w' => e = .returned (.bool (inB n lo hi)) ∧ w' = w := by
  unfold inB
  by_cases h1 : lo ≤ n <;> by_cases h2 : n ≤ hi
  all_goals
    go_enter Try.func39, Try.ntmps39
    go_wp2
    go_ret
    simp [h1, h2]
theorem isFault_any (x : Flt) (w : World) : Calls Try.prog 69 #[fltV x] w fun e w' => e = .returned (.bool (fltB x)) ∧ Below w.heap.size w w' := by
  have HI := Lib.hid (fun n lo hi W => in_any n lo hi W)
  have e : fltB x = (inB x.kind 0 2 && inB x.k 0 128) := by unfold fltB inB; simp [Bool.and_assoc]
  rw [e]
  unfold fltV
  cases h : inB x.kind 0 2
  all_goals
    go_enter Try.func69, Try.ntmps69
    go_wp2_with (go_at_call 39; refine (HI.out _ _ _ _).mono ?_; (try rw [h]); rintro e w' ⟨rfl, rfl⟩)
    go_ret
    exact ⟨rfl, bal (Below.refl _ _) _⟩
theorem may1_any (x : Flt) (w : World) : Calls Try.prog 68 #[fltV x] w fun e w' => e = .returned (.bool (!fltB x)) ∧ Below w.heap.size w w' := by
  have HI := Lib.hid (fun W => isFault_any x W)
  unfold fltV at HI ⊢
  go_enter Try.func68, Try.ntmps68
  go_wp2_with (go_at_call 69; refine (HI.out _).mono ?_; rintro e w' ⟨rfl, hb⟩)
  go_ret
  exact ⟨rfl, bel (bal (Below.refl _ _) _) hb⟩
theorem may2_any (x : ByteArray) (w : World) : Calls Try.prog 71 #[.string x] w fun e w' => e = .returned (.bool (decide (96 < x.size))) ∧ Below w.heap.size w w' := by
  by_cases h : 96 < x.size
  all_goals
    go_enter Try.func71, Try.ntmps71
    go_wp2
    go_ret
    exact ⟨ret_bool (by rw [Bool.eq_iff_iff]; simp only [decide_eq_true_eq]; omega), Below.refl _ _⟩
theorem area_any (v : Value) (xs : List ByteArray) (w : World) (hS : SlAt w v 1 xs.length (strs xs)) : Calls Try.prog 37 #[.agg #[v]] w fun e w' => e = .returned (.int .i64 (areaD xs)) ∧ Below w.heap.size w w' := by
  obtain ⟨a, c, rfl, hnc, hcm⟩ := hS.form
  go_enter Try.func37, Try.ntmps37
  go_wp2
  go_ret
  refine ⟨ret_int ?_, bal (Below.refl _ _) _⟩
  unfold maxLen at hcm
  unfold areaD wrap64
  omega
def placeD (xs : List ByteArray) (gen i : Int) : Int := 2 + gen % 2 * areaD xs + i
theorem place_any (v : Value) (xs : List ByteArray) (gen i : Int) (w : World) (hS : SlAt w v 1 xs.length (strs xs)) (hl : xs.length ≤ 1000) (hg0 : 0 ≤ gen) (hg : gen ≤ 1000) (hi0 : 0 ≤ i) (hi : i ≤ 1000) :
    Calls Try.prog 38 #[.agg #[v], .int .i64 gen, .int .i64 i] w fun e w' => e = .returned (.int .i64 (placeD xs gen i)) ∧ Below w.heap.size w w' := by
  obtain ⟨a, c, rfl, hnc, hcm⟩ := hS.form
  have HA := Lib.hid (fun W (h : SlAt W (Value.slice a xs.length c) 1 xs.length (strs xs)) => area_any _ xs W h)
  have HS := Lib.hid hS
  clear hS
  go_enter Try.func38, Try.ntmps38
  go_wp2_with (go_at_call 37; refine (HA.out _ (HS.out.stay (bal (Below.refl _ _) _))).mono ?_; rintro e w1 ⟨rfl, hb⟩)
  go_ret
  refine ⟨ret_int ?_, bel (bal (Below.refl _ _) _) hb⟩
  unfold placeD areaD
  rcases (by omega : gen % 2 = 0 ∨ gen % 2 = 1) with h | h
  · rw [h]
    unfold wrap64
    omega
  · rw [h]
    unfold wrap64
    omega
end Go.Proofs.Ytopaddpclipnjaa
namespace Go.Proofs.YtopaddpclipnjaaQ.P
open Go.RowKit Go.Proofs.YtopaddpclipnjaaW.PrintWords Go.Proofs.Ytopaddpclipnjaa
theorem c_of_slat {w : World} {A : Option Addr} {c : Nat} {xs : List ByteArray} (h : SlAt w (.slice A xs.length c) 1 xs.length (strs xs)) : Kd.C Kd.string w A xs.length xs ∧ xs.length ≤ c := by
  have hv := v_of_fresh (B := 0) (e := 9) (base := 0) h (fun _ _ => Nat.zero_le _)
  obtain ⟨_, h2, h3⟩ := Kd.V_reads' hv
  exact ⟨h3, h2⟩
theorem storeRight_f (s : Sto) (hl : s.xs.length ≤ maxLen) : store_Right.f s.xs s.gen s.used s.top s.down = some s.okB := by
  have h1 : store_hasLog.f s.xs = some (logB s.xs) := by
    unfold store_hasLog.f sector_Right.f logB
    cases rightD s.xs
    · rfl
    · rw [Option.bind_some, if_pos rfl, Bool.true_and]
      congr 1
  have h2 : ∀ n lo hi : Int, store_in.f n lo hi = some (inB n lo hi) := by
    intro n lo hi
    unfold store_in.f inB
    by_cases h : lo ≤ n <;> simp [h]
  have h3 : store_area.f s.xs = some (areaD s.xs) := by
    unfold store_area.f areaD
    congr 1
    unfold maxLen at hl
    unfold wrap64
    omega
  unfold store_Right.f Sto.okB
  rw [h1, h2, h3]
  simp only [Option.bind_some, h2]
  cases logB s.xs <;> cases inB s.gen 1 250 <;> cases inB s.used 0 (areaD s.xs) <;> simp
theorem storeRight_any (s : Sto) (v : Value) (w : World) (hS : SlAt w v 1 s.xs.length (strs s.xs)) : Calls Try.prog 13 #[s.val v] w fun e w' => e = .returned (.bool s.okB) ∧ Below w.heap.size w w' := by
  obtain ⟨a, c, rfl, hnc, hcm⟩ := hS.form
  have hc := c_of_slat hS
  exact store_Right.calls a c s.xs s.gen s.used s.top s.down s.okB w hc.1 hc.2 (storeRight_f s hcm)
end Go.Proofs.YtopaddpclipnjaaQ.P
namespace Go.Proofs.Ytopaddpclipnjaa
open Go.RowKit
theorem storeMay_any (s : Sto) (v v1 v2 : Value) (l : List ByteArray) (fs : List Flt) (w : World) (hS : SlAt w v 1 s.xs.length (strs s.xs)) (h1 : SlAt w v1 1 l.length (strs l)) (h2 : SlAt w v2 2 fs.length (fltsC fs)) :
    Calls Try.prog 47 #[s.val v, v1, v2] w fun e w' => e = .returned (.int .i64 (mayS s l fs)) ∧ Below w.heap.size w w' := by
  have HR := Lib.hid (fun W (h : SlAt W v 1 s.xs.length (strs s.xs)) => Go.Proofs.YtopaddpclipnjaaQ.P.storeRight_any s v W h)
  have HF := Lib.hid (fun W (h : SlAt W v2 2 fs.length (fltsC fs)) => containsFuncF v2 fs 68 #[] (fun f => !fltB f) W h (fun x _ W' _ => may1_any x W') (enters_of Try.func68 (by kernel_rfl) rfl))
  have HP := Lib.hid (fun W (h : SlAt W v1 1 l.length (strs l)) => containsFuncS_any v1 l 71 #[] (fun p => decide (96 < p.size)) W h (fun x _ W' _ => may2_any x W') (enters_of Try.func71 (by kernel_rfl) rfl))
  have H1 := Lib.hid h1
  have H2 := Lib.hid h2
  have H0 := Lib.hid hS
  obtain ⟨a0, c0, rfl, _, _⟩ := hS.form
  obtain ⟨a1, c1, rfl, _, _⟩ := h1.form
  obtain ⟨a2, c2, rfl, _, _⟩ := h2.form
  clear hS h1 h2
  obtain ⟨r, hr⟩ : ∃ r, r = s.okB := ⟨_, rfl⟩
  obtain ⟨x, hx⟩ : ∃ x, x = fs.any (fun f => !fltB f) := ⟨_, rfl⟩
  obtain ⟨y, hy⟩ : ∃ y, y = l.any (fun p => decide (96 < p.size)) := ⟨_, rfl⟩
  unfold mayS
  rw [← hr] at HR ⊢
  rw [← hx] at HF ⊢
  rw [← hy] at HP ⊢
  unfold Sto.val at HR ⊢
  obtain ⟨xs, gen, used, top, down⟩ := s
  simp only at HR H0 ⊢
  clear hr hx hy
  cases r <;> cases x <;> cases y <;> cases down
  all_goals
    go_enter Try.func47, Try.ntmps47
    go_wp2_with (first
      | (go_at_call 13; refine (HR.out _ (H0.out.stay (bal (Below.refl _ _) _))).mono ?_; rintro e w1 ⟨rfl, hb1⟩; have hw1 := bel (bal (Below.refl w.heap.size w) _) hb1; have K1 := Lib.hid (blk_call hb1 (blk_new w _)); have k1 := blk_cell K1.out (j := 4) rfl; have z1 := blk_free K1.out 4)
      | (go_at_call 67; refine (HF.out _ (H2.out.stay hw1)).mono ?_; rintro e w2 ⟨rfl, hb2⟩; have hw2 := bel hw1 hb2; have K2 := Lib.hid (blk_call hb2 K1.out); have k2 := blk_cell K2.out (j := 4) rfl; have z2 := blk_free K2.out 4)
      | (go_at_call 70; refine (HP.out _ (H1.out.stay hw2)).mono ?_; rintro e w3 ⟨rfl, hb3⟩; have hw3 := bel hw2 hb3; have K3 := Lib.hid (blk_call hb3 K2.out); have k3 := blk_cell K3.out (j := 4) rfl; have z3 := blk_free K3.out 4))
    go_ret
    refine ⟨rfl, ?_⟩
    first | exact hw3 | exact hw2 | exact hw1
end Go.Proofs.Ytopaddpclipnjaa
namespace Go.Proofs.Ytopaddpclipnjaa
open Go.RowKit Go.Proofs.YtopaddpclipnjaaW.PrintLast
theorem goesP_ {P : Program} {Q : Exit → Act → World → Prop} {ops : Array Oper} {oi : Oper} {N : Option Tmp} {a : Act} {w : World} {K : Act → World → Prop} {f : FuncId} {fn : Func} {as_ : Array Operand} {ts : Array TypeId} (hf : P.funcs[f]? = some fn) (hname : (fn.name == "runtime.NumGoroutine") = false) (hb : fn.body.isSome = true) (args : Array Value)
    (hw : Region.wanted oi (yielded ops a.tmps) = true) (hop : oi.op = .call { callee := .value (.func f), args := as_, argTypes := ts }) (hargs : as_.map a.eval = args)
    (h : Calls P f args w fun e w' => ∃ ch, e = .panicked ch ∧ Q (.panic ch) a w') : if Region.wanted oi (yielded ops a.tmps) = true then Oper.wp P oi a w K Q else K (a.put N undef) w := by
  have he := enters_ hf hname hb args w
  have hrun : (execOp a.eval oi).run P w = .ok (.enter f args) w := by
    unfold execOp
    simp [hop, resolve, Deferred.ofValue, invoke, Act.eval, hargs, he]
  rw [if_pos hw]
  unfold Oper.wp
  rw [hrun, Oper.upon_enter]
  refine h.mono fun e w'' hh => ?_
  obtain ⟨v, rfl, hk⟩ := hh
  exact hk
set_option maxHeartbeats 4000000 in
theorem app1_ok (gs gp gf : Nat) (v : Value) (xs : List ByteArray) (gen used top : Int) (down : Bool) (p : ByteArray) (fk fK : Int) (w : World)
    (hB : w.heap[gs]? = some (.cells (SC v gen used top down) 26 (0, 0))) (hP : w.heap[gp]? = some (.cells #[.string p] 9 (0, 0))) (hF : w.heap[gf]? = some (.cells #[.int .i64 fk, .int .i64 fK] 45 (0, 0)))
    (hS : SlAt w v 1 xs.length (strs xs)) (hne : ∀ b, v.ownBlock = some b → b ≠ gs) (hl : xs.length ≤ 1000) (g0 : 0 ≤ gen) (g1 : gen ≤ 1000) (u0 : 0 ≤ used) (u1 : used ≤ 900) (h1 : fk ≠ 1) (h2 : fk ≠ 2) :
    Calls Try.prog 49 #[.pointer (some ⟨gs, 0, none⟩), .pointer (some ⟨gp, 0, none⟩), .pointer (some ⟨gf, 0, none⟩)] w fun e w' =>
      ∃ v', e = .returned (.tuple #[]) ∧ w'.heap[gs]? = some (.cells (SC v' gen (used + 1) top down) 26 (0, 0)) ∧ SlAt w' v' 1 (tearL xs (placeD xs gen used) (sealS gen (used + 1) p) 128).length (strs (tearL xs (placeD xs gen used) (sealS gen (used + 1) p) 128)) ∧ FreshV w.heap.size v' ∧ w.grownBy w' (some gs) := by
  obtain ⟨a, c, rfl, hnc, hcm⟩ := hS.form
  have HB := Lib.hid hB
  have HS := Lib.hid hS
  have hN := Lib.hid hne
  obtain ⟨q, hq⟩ : ∃ q, q = placeD xs gen used := ⟨_, rfl⟩
  have hpl := fun W (h : SlAt W (Value.slice a xs.length c) 1 xs.length (strs xs)) => place_any _ xs gen used W h hl g0 g1 u0 (by omega)
  rw [← hq] at hpl ⊢
  have HP := Lib.hid hpl
  have hw64 : wrap64 (used + 1) = used + 1 := by unfold wrap64; omega
  have hwi : IntKind.i64.wrap (used + 1) = used + 1 := by rw [IntKind.wrap_i64]; omega
  obtain ⟨ys, hys⟩ : ∃ ys, ys = tearL xs q (sealS gen (used + 1) p) 128 := ⟨_, rfl⟩
  have hwr := fun W (hb : W.heap[gs]? = some (.cells (SC (Value.slice a xs.length c) gen used top down) 26 (0, 0))) (h : SlAt W (Value.slice a xs.length c) 1 xs.length (strs xs)) => swrite_ok gs (Value.slice a xs.length c) xs gen used top down q gen (used + 1) p fk fK W hb h hN.out h1 h2
  rw [← hys] at hwr ⊢
  have HW := Lib.hid hwr
  have b0 : w.drew.cell? ⟨gs, 0, none⟩ = some (Value.slice a xs.length c) := blk_cell (show w.drew.heap[gs]? = _ from hB) (j := 0) rfl
  have b1 : w.drew.cell? ⟨gs, 1, none⟩ = some (.int .i64 gen) := blk_cell (show w.drew.heap[gs]? = _ from hB) (j := 1) rfl
  have b2 : w.drew.cell? ⟨gs, 2, none⟩ = some (.int .i64 used) := blk_cell (show w.drew.heap[gs]? = _ from hB) (j := 2) rfl
  have hd : SlAt w.drew (Value.slice a xs.length c) 1 xs.length (strs xs) := hS.stay (bdn (Below.refl _ _) 1)
  have BD : Hid (w.drew.heap[gs]? = some (.cells (SC (Value.slice a xs.length c) gen used top down) 26 (0, 0))) := Lib.hid hB
  have PD : Hid (w.drew.heap[gp]? = some (.cells #[.string p] 9 (0, 0))) := Lib.hid hP
  have FD : Hid (w.drew.heap[gf]? = some (.cells #[.int .i64 fk, .int .i64 fK] 45 (0, 0))) := Lib.hid hF
  have b3 : w.drew.cell? ⟨gp, 0, none⟩ = some (.string p) := blk_cell (show w.drew.heap[gp]? = _ from hP) (j := 0) rfl
  have b4 : w.drew.cell? ⟨gf, 0, none⟩ = some (.int .i64 fk) := blk_cell (show w.drew.heap[gf]? = _ from hF) (j := 0) rfl
  have b5 : w.drew.cell? ⟨gf, 1, none⟩ = some (.int .i64 fK) := blk_cell (show w.drew.heap[gf]? = _ from hF) (j := 1) rfl
  clear hpl hwr hS hB hP hF hne hq hys h1 h2 hl g0 g1 u0 u1
  go_enter Try.func49, Try.ntmps49
  go_wp2
  refine start_ (n := 15) (S := fun w' => w'.cell? ⟨gs, 0, none⟩ = some (Value.slice a xs.length c) ∧ w'.cell? ⟨gs, 1, none⟩ = some (.int .i64 gen) ∧ w'.cell? ⟨gs, 2, none⟩ = some (.int .i64 used) ∧ w'.cell? ⟨gp, 0, none⟩ = some (.string p) ∧ w'.cell? ⟨gf, 0, none⟩ = some (.int .i64 fk) ∧ w'.cell? ⟨gf, 1, none⟩ = some (.int .i64 fK)) (ds := [14]) #[false, false, false, false, false, false, false, false, false, false, false, false, false, false, false] (by kernel_rfl) rfl rfl ⟨b0, b1, b2, b3, b4, b5⟩ (fun hHeld => ?_)
  refine pure_ (i := 0) (N := some 3) (v := ?_) (a' := ?_) #[true, false, false, false, false, false, false, false, false, false, false, false, false, false, false] rfl rfl (by kernel_rfl) (fun _ _ _ h => h) (Or.inl ⟨by rfl, ?_⟩) ?_ ?_
  rotate_left
  · intro w'
    go_simp
    with_reducible rfl
  rotate_left
  · simp only [Act.put, List.setIfInBounds_toArray, List.set_cons_zero, List.set_cons_succ, i64_w, i32_w]
    rfl
  refine take_ (i := 1) (N := some 4) (v := ?_) (a' := ?_) #[true, true, false, false, false, false, false, false, false, false, false, false, false, false, false] rfl rfl (by kernel_rfl) (fun _ _ _ h => h) (Or.inl ⟨by rfl, ?_⟩) hHeld ?_ ?_
  rotate_left
  · rintro w' ⟨s0, s1, s2, s3, s4, s5⟩
    go_simp
    with_reducible rfl
  rotate_left
  · simp only [Act.put, List.setIfInBounds_toArray, List.set_cons_zero, List.set_cons_succ, i64_w, i32_w]
    rfl
  refine pure_ (i := 2) (N := some 5) (v := ?_) (a' := ?_) #[true, true, true, false, false, false, false, false, false, false, false, false, false, false, false] rfl rfl (by kernel_rfl) (fun _ _ _ h => h) (Or.inl ⟨by rfl, ?_⟩) ?_ ?_
  rotate_left
  · intro w'
    go_simp
    with_reducible rfl
  rotate_left
  · simp only [Act.put, List.setIfInBounds_toArray, List.set_cons_zero, List.set_cons_succ, i64_w, i32_w]
    rfl
  refine take_ (i := 3) (N := some 6) (v := ?_) (a' := ?_) #[true, true, true, true, false, false, false, false, false, false, false, false, false, false, false] rfl rfl (by kernel_rfl) (fun _ _ _ h => h) (Or.inl ⟨by rfl, ?_⟩) hHeld ?_ ?_
  rotate_left
  · rintro w' ⟨s0, s1, s2, s3, s4, s5⟩
    go_simp
    with_reducible rfl
  rotate_left
  · simp only [Act.put, List.setIfInBounds_toArray, List.set_cons_zero, List.set_cons_succ, i64_w, i32_w]
    rfl
  refine pure_ (i := 4) (N := some 7) (v := ?_) (a' := ?_) #[true, true, true, true, true, false, false, false, false, false, false, false, false, false, false] rfl rfl (by kernel_rfl) (fun _ _ _ h => h) (Or.inl ⟨by rfl, ?_⟩) ?_ ?_
  rotate_left
  · intro w'
    go_simp
    with_reducible rfl
  rotate_left
  · simp only [Act.put, List.setIfInBounds_toArray, List.set_cons_zero, List.set_cons_succ, i64_w, i32_w]
    rfl
  refine take_ (i := 5) (N := some 8) (v := ?_) (a' := ?_) #[true, true, true, true, true, true, false, false, false, false, false, false, false, false, false] rfl rfl (by kernel_rfl) (fun _ _ _ h => h) (Or.inl ⟨by rfl, ?_⟩) hHeld ?_ ?_
  rotate_left
  · rintro w' ⟨s0, s1, s2, s3, s4, s5⟩
    go_simp
    with_reducible rfl
  rotate_left
  · simp only [Act.put, List.setIfInBounds_toArray, List.set_cons_zero, List.set_cons_succ, i64_w, i32_w]
    rfl
  refine pure_ (i := 7) (N := some 10) (v := ?_) (a' := ?_) #[true, true, true, true, true, true, false, true, false, false, false, false, false, false, false] rfl rfl (by kernel_rfl) (fun _ _ _ h => h) (Or.inl ⟨by rfl, ?_⟩) ?_ ?_
  rotate_left
  · intro w'
    go_simp
    with_reducible rfl
  rotate_left
  · simp only [Act.put, List.setIfInBounds_toArray, List.set_cons_zero, List.set_cons_succ, i64_w, i32_w]
    rfl
  refine take_ (i := 8) (N := some 11) (v := ?_) (a' := ?_) #[true, true, true, true, true, true, false, true, true, false, false, false, false, false, false] rfl rfl (by kernel_rfl) (fun _ _ _ h => h) (Or.inl ⟨by rfl, ?_⟩) hHeld ?_ ?_
  rotate_left
  · rintro w' ⟨s0, s1, s2, s3, s4, s5⟩
    go_simp
    with_reducible rfl
  rotate_left
  · simp only [Act.put, List.setIfInBounds_toArray, List.set_cons_zero, List.set_cons_succ, i64_w, i32_w]
    rfl
  refine pure_ (i := 9) (N := some 12) (v := ?_) (a' := ?_) #[true, true, true, true, true, true, false, true, true, true, false, false, false, false, false] rfl rfl (by kernel_rfl) (fun _ _ _ h => h) (Or.inl ⟨by rfl, ?_⟩) ?_ ?_
  rotate_left
  · intro w'
    go_simp
    with_reducible rfl
  rotate_left
  · simp only [Act.put, List.setIfInBounds_toArray, List.set_cons_zero, List.set_cons_succ, i64_w, i32_w]
    rfl
  refine take_ (i := 10) (N := some 13) (v := ?_) (a' := ?_) #[true, true, true, true, true, true, false, true, true, true, true, false, false, false, false] rfl rfl (by kernel_rfl) (fun _ _ _ h => h) (Or.inl ⟨by rfl, ?_⟩) hHeld ?_ ?_
  rotate_left
  · rintro w' ⟨s0, s1, s2, s3, s4, s5⟩
    go_simp
    with_reducible rfl
  rotate_left
  · simp only [Act.put, List.setIfInBounds_toArray, List.set_cons_zero, List.set_cons_succ, i64_w, i32_w]
    rfl
  refine pure_ (i := 11) (N := some 14) (v := ?_) (a' := ?_) #[true, true, true, true, true, true, false, true, true, true, true, true, false, false, false] rfl rfl (by kernel_rfl) (fun _ _ _ h => h) (Or.inl ⟨by rfl, ?_⟩) ?_ ?_
  rotate_left
  · intro w'
    go_simp
    with_reducible rfl
  rotate_left
  · simp only [Act.put, List.setIfInBounds_toArray, List.set_cons_zero, List.set_cons_succ, i64_w, i32_w]
    rfl
  refine take_ (i := 12) (N := some 15) (v := ?_) (a' := ?_) #[true, true, true, true, true, true, false, true, true, true, true, true, true, false, false] rfl rfl (by kernel_rfl) (fun _ _ _ h => h) (Or.inl ⟨by rfl, ?_⟩) hHeld ?_ ?_
  rotate_left
  · rintro w' ⟨s0, s1, s2, s3, s4, s5⟩
    go_simp
    with_reducible rfl
  rotate_left
  · simp only [Act.put, List.setIfInBounds_toArray, List.set_cons_zero, List.set_cons_succ, i64_w, i32_w]
    rfl
  refine take_ (i := 13) (N := some 16) (v := ?_) (a' := ?_) #[true, true, true, true, true, true, false, true, true, true, true, true, true, true, false] rfl rfl (by kernel_rfl) (fun _ _ _ h => h) (Or.inl ⟨by rfl, ?_⟩) hHeld ?_ ?_
  rotate_left
  · rintro w' ⟨s0, s1, s2, s3, s4, s5⟩
    go_simp
    with_reducible rfl
  rotate_left
  · simp only [Act.put, List.setIfInBounds_toArray, List.set_cons_zero, List.set_cons_succ, i64_w, i32_w]
    rfl
  refine one_ (i := 6) (N := some 9) #[true, true, true, true, true, true, true, true, true, true, true, true, true, true, false] rfl rfl (by kernel_rfl) (by decide) (fun K hK => ?_)
  refine goes_ Try.func38 (by kernel_rfl) rfl #[.agg #[.slice a xs.length c], .int .i64 gen, .int .i64 used] (by rfl) rfl rfl (by (try simp only [List.map_toArray, List.map_cons, List.map_nil]); first | done | rfl) ?_
  refine (HP.out _ hd).mono ?_
  rintro e w1 ⟨rfl, hb1⟩
  refine ⟨_, rfl, ?_⟩
  have B1 := Lib.hid (blk_call hb1 BD.out)
  have P1 := Lib.hid (blk_call hb1 PD.out)
  have F1 := Lib.hid (blk_call hb1 FD.out)
  have s1 := Lib.hid (hd.stay hb1)
  refine hK.out _ _ ⟨blk_cell B1.out (j := 0) rfl, blk_cell B1.out (j := 1) rfl, blk_cell B1.out (j := 2) rfl, blk_cell P1.out (j := 0) rfl, blk_cell F1.out (j := 0) rfl, blk_cell F1.out (j := 1) rfl⟩ (fun hHeld => ?_)
  clear hK K
  refine norm_ (a' := ?_) ?_ ?_
  rotate_left
  · show Act.put _ (some 9) _ = _
    simp only [Act.put, List.setIfInBounds_toArray, List.set_cons_zero, List.set_cons_succ, i64_w, i32_w]
    rfl
  refine last_ (i := 14) (N := some 17) #[true, true, true, true, true, true, true, true, true, true, true, true, true, true, true] rfl rfl (by kernel_rfl) (by decide) (fun K hK => ?_)
  refine goes_ Try.func50 (by kernel_rfl) rfl #[.pointer (some ⟨gs, 0, none⟩), .int .i64 q, .int .i64 gen, .int .i64 (used + 1), .string p, .agg #[.int .i64 fk, .int .i64 fK]] (by rfl) rfl rfl (by (try simp only [List.map_toArray, List.map_cons, List.map_nil]); first | done | rfl) ?_
  refine (HW.out _ B1.out s1.out).mono ?_
  rintro e w2 ⟨v2, rfl, hB2, hS2, hF2, hG2⟩
  refine ⟨_, rfl, ?_⟩
  refine hK.out _ _ ?_
  clear hK K
  refine norm_ (a' := ?_) ?_ ?_
  rotate_left
  · show Act.put _ (some 17) _ = _
    simp only [Act.put, List.setIfInBounds_toArray, List.set_cons_zero, List.set_cons_succ, i64_w, i32_w]
    rfl
  refine done_ (by kernel_rfl) ?_
  have B2 := Lib.hid hB2
  have d2 : w2.cell? ⟨gs, 2, none⟩ = some (.int .i64 used) := blk_cell B2.out (j := 2) rfl
  have z2 := blk_free B2.out 2
  go_wp2
  go_end0
  exact ⟨v2, rfl, blk_set B2.out 2 _, hS2.store (p := ⟨gs, 2, none⟩) (fun b hb => by have h1 := hF2 b hb; have h2 : gs < w.heap.size := blk_lt HB.out; have h3 : w.drew.heap.size ≤ w1.heap.size := hb1.size; have h4 : w.drew.heap.size = w.heap.size := rfl; show b ≠ gs; omega) _, hF2.mono (show w.drew.heap.size ≤ _ from hb1.size), gr_set4 ((gr_bel (row := some gs) (show Below w.heap.size w w1 from (bdn (Below.refl _ _) 1).trans ⟨hb1.os, hb1.tape, hb1.output, hb1.size, fun i hi => hb1.block i hi⟩)).trans hG2) _⟩
set_option maxHeartbeats 4000000 in
theorem app1_fail (gs gp gf : Nat) (v : Value) (xs : List ByteArray) (gen used top : Int) (down : Bool) (p : ByteArray) (fK : Int) (w : World)
    (hB : w.heap[gs]? = some (.cells (SC v gen used top down) 26 (0, 0))) (hP : w.heap[gp]? = some (.cells #[.string p] 9 (0, 0))) (hF : w.heap[gf]? = some (.cells #[.int .i64 1, .int .i64 fK] 45 (0, 0)))
    (hS : SlAt w v 1 xs.length (strs xs)) (hne : ∀ b, v.ownBlock = some b → b ≠ gs) (hl : xs.length ≤ 1000) (g0 : 0 ≤ gen) (g1 : gen ≤ 1000) (u0 : 0 ≤ used) (u1 : used ≤ 900) :
    Calls Try.prog 49 #[.pointer (some ⟨gs, 0, none⟩), .pointer (some ⟨gp, 0, none⟩), .pointer (some ⟨gf, 0, none⟩)] w fun e w' =>
      e = .panicked [{ v := stopV 8, recovered := false }] ∧ Below w.heap.size w w' := by
  obtain ⟨a, c, rfl, hnc, hcm⟩ := hS.form
  have HB := Lib.hid hB
  have HS := Lib.hid hS
  have hN := Lib.hid hne
  obtain ⟨q, hq⟩ : ∃ q, q = placeD xs gen used := ⟨_, rfl⟩
  have hpl := fun W (h : SlAt W (Value.slice a xs.length c) 1 xs.length (strs xs)) => place_any _ xs gen used W h hl g0 g1 u0 (by omega)
  rw [← hq] at hpl
  have HP := Lib.hid hpl
  have hw64 : wrap64 (used + 1) = used + 1 := by unfold wrap64; omega
  have hwi : IntKind.i64.wrap (used + 1) = used + 1 := by rw [IntKind.wrap_i64]; omega
  have hwr := fun W (hb : W.heap[gs]? = some (.cells (SC (Value.slice a xs.length c) gen used top down) 26 (0, 0))) => swrite_fail gs (Value.slice a xs.length c) gen used top down q gen (used + 1) p fK W hb
  have HW := Lib.hid hwr
  have b0 : w.drew.cell? ⟨gs, 0, none⟩ = some (Value.slice a xs.length c) := blk_cell (show w.drew.heap[gs]? = _ from hB) (j := 0) rfl
  have b1 : w.drew.cell? ⟨gs, 1, none⟩ = some (.int .i64 gen) := blk_cell (show w.drew.heap[gs]? = _ from hB) (j := 1) rfl
  have b2 : w.drew.cell? ⟨gs, 2, none⟩ = some (.int .i64 used) := blk_cell (show w.drew.heap[gs]? = _ from hB) (j := 2) rfl
  have hd : SlAt w.drew (Value.slice a xs.length c) 1 xs.length (strs xs) := hS.stay (bdn (Below.refl _ _) 1)
  have BD : Hid (w.drew.heap[gs]? = some (.cells (SC (Value.slice a xs.length c) gen used top down) 26 (0, 0))) := Lib.hid hB
  have PD : Hid (w.drew.heap[gp]? = some (.cells #[.string p] 9 (0, 0))) := Lib.hid hP
  have FD : Hid (w.drew.heap[gf]? = some (.cells #[.int .i64 1, .int .i64 fK] 45 (0, 0))) := Lib.hid hF
  have b3 : w.drew.cell? ⟨gp, 0, none⟩ = some (.string p) := blk_cell (show w.drew.heap[gp]? = _ from hP) (j := 0) rfl
  have b4 : w.drew.cell? ⟨gf, 0, none⟩ = some (.int .i64 1) := blk_cell (show w.drew.heap[gf]? = _ from hF) (j := 0) rfl
  have b5 : w.drew.cell? ⟨gf, 1, none⟩ = some (.int .i64 fK) := blk_cell (show w.drew.heap[gf]? = _ from hF) (j := 1) rfl
  clear hpl hwr hS hB hP hF hne hq hl g0 g1 u0 u1
  go_enter Try.func49, Try.ntmps49
  go_wp2
  refine start_ (n := 15) (S := fun w' => w'.cell? ⟨gs, 0, none⟩ = some (Value.slice a xs.length c) ∧ w'.cell? ⟨gs, 1, none⟩ = some (.int .i64 gen) ∧ w'.cell? ⟨gs, 2, none⟩ = some (.int .i64 used) ∧ w'.cell? ⟨gp, 0, none⟩ = some (.string p) ∧ w'.cell? ⟨gf, 0, none⟩ = some (.int .i64 1) ∧ w'.cell? ⟨gf, 1, none⟩ = some (.int .i64 fK)) (ds := [14]) #[false, false, false, false, false, false, false, false, false, false, false, false, false, false, false] (by kernel_rfl) rfl rfl ⟨b0, b1, b2, b3, b4, b5⟩ (fun hHeld => ?_)
  refine pure_ (i := 0) (N := some 3) (v := ?_) (a' := ?_) #[true, false, false, false, false, false, false, false, false, false, false, false, false, false, false] rfl rfl (by kernel_rfl) (fun _ _ _ h => h) (Or.inl ⟨by rfl, ?_⟩) ?_ ?_
  rotate_left
  · intro w'
    go_simp
    with_reducible rfl
  rotate_left
  · simp only [Act.put, List.setIfInBounds_toArray, List.set_cons_zero, List.set_cons_succ, i64_w, i32_w]
    rfl
  refine take_ (i := 1) (N := some 4) (v := ?_) (a' := ?_) #[true, true, false, false, false, false, false, false, false, false, false, false, false, false, false] rfl rfl (by kernel_rfl) (fun _ _ _ h => h) (Or.inl ⟨by rfl, ?_⟩) hHeld ?_ ?_
  rotate_left
  · rintro w' ⟨s0, s1, s2, s3, s4, s5⟩
    go_simp
    with_reducible rfl
  rotate_left
  · simp only [Act.put, List.setIfInBounds_toArray, List.set_cons_zero, List.set_cons_succ, i64_w, i32_w]
    rfl
  refine pure_ (i := 2) (N := some 5) (v := ?_) (a' := ?_) #[true, true, true, false, false, false, false, false, false, false, false, false, false, false, false] rfl rfl (by kernel_rfl) (fun _ _ _ h => h) (Or.inl ⟨by rfl, ?_⟩) ?_ ?_
  rotate_left
  · intro w'
    go_simp
    with_reducible rfl
  rotate_left
  · simp only [Act.put, List.setIfInBounds_toArray, List.set_cons_zero, List.set_cons_succ, i64_w, i32_w]
    rfl
  refine take_ (i := 3) (N := some 6) (v := ?_) (a' := ?_) #[true, true, true, true, false, false, false, false, false, false, false, false, false, false, false] rfl rfl (by kernel_rfl) (fun _ _ _ h => h) (Or.inl ⟨by rfl, ?_⟩) hHeld ?_ ?_
  rotate_left
  · rintro w' ⟨s0, s1, s2, s3, s4, s5⟩
    go_simp
    with_reducible rfl
  rotate_left
  · simp only [Act.put, List.setIfInBounds_toArray, List.set_cons_zero, List.set_cons_succ, i64_w, i32_w]
    rfl
  refine pure_ (i := 4) (N := some 7) (v := ?_) (a' := ?_) #[true, true, true, true, true, false, false, false, false, false, false, false, false, false, false] rfl rfl (by kernel_rfl) (fun _ _ _ h => h) (Or.inl ⟨by rfl, ?_⟩) ?_ ?_
  rotate_left
  · intro w'
    go_simp
    with_reducible rfl
  rotate_left
  · simp only [Act.put, List.setIfInBounds_toArray, List.set_cons_zero, List.set_cons_succ, i64_w, i32_w]
    rfl
  refine take_ (i := 5) (N := some 8) (v := ?_) (a' := ?_) #[true, true, true, true, true, true, false, false, false, false, false, false, false, false, false] rfl rfl (by kernel_rfl) (fun _ _ _ h => h) (Or.inl ⟨by rfl, ?_⟩) hHeld ?_ ?_
  rotate_left
  · rintro w' ⟨s0, s1, s2, s3, s4, s5⟩
    go_simp
    with_reducible rfl
  rotate_left
  · simp only [Act.put, List.setIfInBounds_toArray, List.set_cons_zero, List.set_cons_succ, i64_w, i32_w]
    rfl
  refine pure_ (i := 7) (N := some 10) (v := ?_) (a' := ?_) #[true, true, true, true, true, true, false, true, false, false, false, false, false, false, false] rfl rfl (by kernel_rfl) (fun _ _ _ h => h) (Or.inl ⟨by rfl, ?_⟩) ?_ ?_
  rotate_left
  · intro w'
    go_simp
    with_reducible rfl
  rotate_left
  · simp only [Act.put, List.setIfInBounds_toArray, List.set_cons_zero, List.set_cons_succ, i64_w, i32_w]
    rfl
  refine take_ (i := 8) (N := some 11) (v := ?_) (a' := ?_) #[true, true, true, true, true, true, false, true, true, false, false, false, false, false, false] rfl rfl (by kernel_rfl) (fun _ _ _ h => h) (Or.inl ⟨by rfl, ?_⟩) hHeld ?_ ?_
  rotate_left
  · rintro w' ⟨s0, s1, s2, s3, s4, s5⟩
    go_simp
    with_reducible rfl
  rotate_left
  · simp only [Act.put, List.setIfInBounds_toArray, List.set_cons_zero, List.set_cons_succ, i64_w, i32_w]
    rfl
  refine pure_ (i := 9) (N := some 12) (v := ?_) (a' := ?_) #[true, true, true, true, true, true, false, true, true, true, false, false, false, false, false] rfl rfl (by kernel_rfl) (fun _ _ _ h => h) (Or.inl ⟨by rfl, ?_⟩) ?_ ?_
  rotate_left
  · intro w'
    go_simp
    with_reducible rfl
  rotate_left
  · simp only [Act.put, List.setIfInBounds_toArray, List.set_cons_zero, List.set_cons_succ, i64_w, i32_w]
    rfl
  refine take_ (i := 10) (N := some 13) (v := ?_) (a' := ?_) #[true, true, true, true, true, true, false, true, true, true, true, false, false, false, false] rfl rfl (by kernel_rfl) (fun _ _ _ h => h) (Or.inl ⟨by rfl, ?_⟩) hHeld ?_ ?_
  rotate_left
  · rintro w' ⟨s0, s1, s2, s3, s4, s5⟩
    go_simp
    with_reducible rfl
  rotate_left
  · simp only [Act.put, List.setIfInBounds_toArray, List.set_cons_zero, List.set_cons_succ, i64_w, i32_w]
    rfl
  refine pure_ (i := 11) (N := some 14) (v := ?_) (a' := ?_) #[true, true, true, true, true, true, false, true, true, true, true, true, false, false, false] rfl rfl (by kernel_rfl) (fun _ _ _ h => h) (Or.inl ⟨by rfl, ?_⟩) ?_ ?_
  rotate_left
  · intro w'
    go_simp
    with_reducible rfl
  rotate_left
  · simp only [Act.put, List.setIfInBounds_toArray, List.set_cons_zero, List.set_cons_succ, i64_w, i32_w]
    rfl
  refine take_ (i := 12) (N := some 15) (v := ?_) (a' := ?_) #[true, true, true, true, true, true, false, true, true, true, true, true, true, false, false] rfl rfl (by kernel_rfl) (fun _ _ _ h => h) (Or.inl ⟨by rfl, ?_⟩) hHeld ?_ ?_
  rotate_left
  · rintro w' ⟨s0, s1, s2, s3, s4, s5⟩
    go_simp
    with_reducible rfl
  rotate_left
  · simp only [Act.put, List.setIfInBounds_toArray, List.set_cons_zero, List.set_cons_succ, i64_w, i32_w]
    rfl
  refine take_ (i := 13) (N := some 16) (v := ?_) (a' := ?_) #[true, true, true, true, true, true, false, true, true, true, true, true, true, true, false] rfl rfl (by kernel_rfl) (fun _ _ _ h => h) (Or.inl ⟨by rfl, ?_⟩) hHeld ?_ ?_
  rotate_left
  · rintro w' ⟨s0, s1, s2, s3, s4, s5⟩
    go_simp
    with_reducible rfl
  rotate_left
  · simp only [Act.put, List.setIfInBounds_toArray, List.set_cons_zero, List.set_cons_succ, i64_w, i32_w]
    rfl
  refine one_ (i := 6) (N := some 9) #[true, true, true, true, true, true, true, true, true, true, true, true, true, true, false] rfl rfl (by kernel_rfl) (by decide) (fun K hK => ?_)
  refine goes_ Try.func38 (by kernel_rfl) rfl #[.agg #[.slice a xs.length c], .int .i64 gen, .int .i64 used] (by rfl) rfl rfl (by (try simp only [List.map_toArray, List.map_cons, List.map_nil]); first | done | rfl) ?_
  refine (HP.out _ hd).mono ?_
  rintro e w1 ⟨rfl, hb1⟩
  refine ⟨_, rfl, ?_⟩
  have B1 := Lib.hid (blk_call hb1 BD.out)
  have P1 := Lib.hid (blk_call hb1 PD.out)
  have F1 := Lib.hid (blk_call hb1 FD.out)
  have s1 := Lib.hid (hd.stay hb1)
  refine hK.out _ _ ⟨blk_cell B1.out (j := 0) rfl, blk_cell B1.out (j := 1) rfl, blk_cell B1.out (j := 2) rfl, blk_cell P1.out (j := 0) rfl, blk_cell F1.out (j := 0) rfl, blk_cell F1.out (j := 1) rfl⟩ (fun hHeld => ?_)
  clear hK K
  refine norm_ (a' := ?_) ?_ ?_
  rotate_left
  · show Act.put _ (some 9) _ = _
    simp only [Act.put, List.setIfInBounds_toArray, List.set_cons_zero, List.set_cons_succ, i64_w, i32_w]
    rfl
  refine last_ (i := 14) (N := some 17) #[true, true, true, true, true, true, true, true, true, true, true, true, true, true, true] rfl rfl (by kernel_rfl) (by decide) (fun K hK => ?_)
  refine goesP_ Try.func50 (by kernel_rfl) rfl #[.pointer (some ⟨gs, 0, none⟩), .int .i64 q, .int .i64 gen, .int .i64 (used + 1), .string p, .agg #[.int .i64 1, .int .i64 fK]] (by rfl) rfl (by (try simp only [List.map_toArray, List.map_cons, List.map_nil]); first | done | rfl) ?_
  refine (HW.out _ B1.out).mono ?_
  rintro e w2 ⟨rfl, hb2⟩
  refine ⟨_, rfl, ?_⟩
  exact ⟨rfl, rfl, bel (show Below w.heap.size w w1 from (bdn (Below.refl _ _) 1).trans ⟨hb1.os, hb1.tape, hb1.output, hb1.size, fun i hi => hb1.block i hi⟩) hb2⟩
set_option maxHeartbeats 4000000 in
theorem app1_crash (gs gp gf : Nat) (v : Value) (xs : List ByteArray) (gen used top : Int) (down : Bool) (p : ByteArray) (fK : Int) (w : World)
    (hB : w.heap[gs]? = some (.cells (SC v gen used top down) 26 (0, 0))) (hP : w.heap[gp]? = some (.cells #[.string p] 9 (0, 0))) (hF : w.heap[gf]? = some (.cells #[.int .i64 2, .int .i64 fK] 45 (0, 0)))
    (hS : SlAt w v 1 xs.length (strs xs)) (hne : ∀ b, v.ownBlock = some b → b ≠ gs) (hl : xs.length ≤ 1000) (g0 : 0 ≤ gen) (g1 : gen ≤ 1000) (u0 : 0 ≤ used) (u1 : used ≤ 900) :
    Calls Try.prog 49 #[.pointer (some ⟨gs, 0, none⟩), .pointer (some ⟨gp, 0, none⟩), .pointer (some ⟨gf, 0, none⟩)] w fun e w' =>
      ∃ v', e = .panicked [{ v := stopV 9, recovered := false }] ∧ w'.heap[gs]? = some (.cells (SC v' gen used top true) 26 (0, 0)) ∧ SlAt w' v' 1 (tearL xs (placeD xs gen used) (sealS gen (used + 1) p) fK).length (strs (tearL xs (placeD xs gen used) (sealS gen (used + 1) p) fK)) ∧ FreshV w.heap.size v' ∧ w.grownBy w' (some gs) := by
  obtain ⟨a, c, rfl, hnc, hcm⟩ := hS.form
  have HB := Lib.hid hB
  have HS := Lib.hid hS
  have hN := Lib.hid hne
  obtain ⟨q, hq⟩ : ∃ q, q = placeD xs gen used := ⟨_, rfl⟩
  have hpl := fun W (h : SlAt W (Value.slice a xs.length c) 1 xs.length (strs xs)) => place_any _ xs gen used W h hl g0 g1 u0 (by omega)
  rw [← hq] at hpl ⊢
  have HP := Lib.hid hpl
  have hw64 : wrap64 (used + 1) = used + 1 := by unfold wrap64; omega
  have hwi : IntKind.i64.wrap (used + 1) = used + 1 := by rw [IntKind.wrap_i64]; omega
  obtain ⟨ys, hys⟩ : ∃ ys, ys = tearL xs q (sealS gen (used + 1) p) fK := ⟨_, rfl⟩
  have hwr := fun W (hb : W.heap[gs]? = some (.cells (SC (Value.slice a xs.length c) gen used top down) 26 (0, 0))) (h : SlAt W (Value.slice a xs.length c) 1 xs.length (strs xs)) => swrite_crash gs (Value.slice a xs.length c) xs gen used top down q gen (used + 1) p fK W hb h hN.out
  rw [← hys] at hwr ⊢
  have HW := Lib.hid hwr
  have b0 : w.drew.cell? ⟨gs, 0, none⟩ = some (Value.slice a xs.length c) := blk_cell (show w.drew.heap[gs]? = _ from hB) (j := 0) rfl
  have b1 : w.drew.cell? ⟨gs, 1, none⟩ = some (.int .i64 gen) := blk_cell (show w.drew.heap[gs]? = _ from hB) (j := 1) rfl
  have b2 : w.drew.cell? ⟨gs, 2, none⟩ = some (.int .i64 used) := blk_cell (show w.drew.heap[gs]? = _ from hB) (j := 2) rfl
  have hd : SlAt w.drew (Value.slice a xs.length c) 1 xs.length (strs xs) := hS.stay (bdn (Below.refl _ _) 1)
  have BD : Hid (w.drew.heap[gs]? = some (.cells (SC (Value.slice a xs.length c) gen used top down) 26 (0, 0))) := Lib.hid hB
  have PD : Hid (w.drew.heap[gp]? = some (.cells #[.string p] 9 (0, 0))) := Lib.hid hP
  have FD : Hid (w.drew.heap[gf]? = some (.cells #[.int .i64 2, .int .i64 fK] 45 (0, 0))) := Lib.hid hF
  have b3 : w.drew.cell? ⟨gp, 0, none⟩ = some (.string p) := blk_cell (show w.drew.heap[gp]? = _ from hP) (j := 0) rfl
  have b4 : w.drew.cell? ⟨gf, 0, none⟩ = some (.int .i64 2) := blk_cell (show w.drew.heap[gf]? = _ from hF) (j := 0) rfl
  have b5 : w.drew.cell? ⟨gf, 1, none⟩ = some (.int .i64 fK) := blk_cell (show w.drew.heap[gf]? = _ from hF) (j := 1) rfl
  clear hpl hwr hS hB hP hF hne hq hys hl g0 g1 u0 u1
  go_enter Try.func49, Try.ntmps49
  go_wp2
  refine start_ (n := 15) (S := fun w' => w'.cell? ⟨gs, 0, none⟩ = some (Value.slice a xs.length c) ∧ w'.cell? ⟨gs, 1, none⟩ = some (.int .i64 gen) ∧ w'.cell? ⟨gs, 2, none⟩ = some (.int .i64 used) ∧ w'.cell? ⟨gp, 0, none⟩ = some (.string p) ∧ w'.cell? ⟨gf, 0, none⟩ = some (.int .i64 2) ∧ w'.cell? ⟨gf, 1, none⟩ = some (.int .i64 fK)) (ds := [14]) #[false, false, false, false, false, false, false, false, false, false, false, false, false, false, false] (by kernel_rfl) rfl rfl ⟨b0, b1, b2, b3, b4, b5⟩ (fun hHeld => ?_)
  refine pure_ (i := 0) (N := some 3) (v := ?_) (a' := ?_) #[true, false, false, false, false, false, false, false, false, false, false, false, false, false, false] rfl rfl (by kernel_rfl) (fun _ _ _ h => h) (Or.inl ⟨by rfl, ?_⟩) ?_ ?_
  rotate_left
  · intro w'
    go_simp
    with_reducible rfl
  rotate_left
  · simp only [Act.put, List.setIfInBounds_toArray, List.set_cons_zero, List.set_cons_succ, i64_w, i32_w]
    rfl
  refine take_ (i := 1) (N := some 4) (v := ?_) (a' := ?_) #[true, true, false, false, false, false, false, false, false, false, false, false, false, false, false] rfl rfl (by kernel_rfl) (fun _ _ _ h => h) (Or.inl ⟨by rfl, ?_⟩) hHeld ?_ ?_
  rotate_left
  · rintro w' ⟨s0, s1, s2, s3, s4, s5⟩
    go_simp
    with_reducible rfl
  rotate_left
  · simp only [Act.put, List.setIfInBounds_toArray, List.set_cons_zero, List.set_cons_succ, i64_w, i32_w]
    rfl
  refine pure_ (i := 2) (N := some 5) (v := ?_) (a' := ?_) #[true, true, true, false, false, false, false, false, false, false, false, false, false, false, false] rfl rfl (by kernel_rfl) (fun _ _ _ h => h) (Or.inl ⟨by rfl, ?_⟩) ?_ ?_
  rotate_left
  · intro w'
    go_simp
    with_reducible rfl
  rotate_left
  · simp only [Act.put, List.setIfInBounds_toArray, List.set_cons_zero, List.set_cons_succ, i64_w, i32_w]
    rfl
  refine take_ (i := 3) (N := some 6) (v := ?_) (a' := ?_) #[true, true, true, true, false, false, false, false, false, false, false, false, false, false, false] rfl rfl (by kernel_rfl) (fun _ _ _ h => h) (Or.inl ⟨by rfl, ?_⟩) hHeld ?_ ?_
  rotate_left
  · rintro w' ⟨s0, s1, s2, s3, s4, s5⟩
    go_simp
    with_reducible rfl
  rotate_left
  · simp only [Act.put, List.setIfInBounds_toArray, List.set_cons_zero, List.set_cons_succ, i64_w, i32_w]
    rfl
  refine pure_ (i := 4) (N := some 7) (v := ?_) (a' := ?_) #[true, true, true, true, true, false, false, false, false, false, false, false, false, false, false] rfl rfl (by kernel_rfl) (fun _ _ _ h => h) (Or.inl ⟨by rfl, ?_⟩) ?_ ?_
  rotate_left
  · intro w'
    go_simp
    with_reducible rfl
  rotate_left
  · simp only [Act.put, List.setIfInBounds_toArray, List.set_cons_zero, List.set_cons_succ, i64_w, i32_w]
    rfl
  refine take_ (i := 5) (N := some 8) (v := ?_) (a' := ?_) #[true, true, true, true, true, true, false, false, false, false, false, false, false, false, false] rfl rfl (by kernel_rfl) (fun _ _ _ h => h) (Or.inl ⟨by rfl, ?_⟩) hHeld ?_ ?_
  rotate_left
  · rintro w' ⟨s0, s1, s2, s3, s4, s5⟩
    go_simp
    with_reducible rfl
  rotate_left
  · simp only [Act.put, List.setIfInBounds_toArray, List.set_cons_zero, List.set_cons_succ, i64_w, i32_w]
    rfl
  refine pure_ (i := 7) (N := some 10) (v := ?_) (a' := ?_) #[true, true, true, true, true, true, false, true, false, false, false, false, false, false, false] rfl rfl (by kernel_rfl) (fun _ _ _ h => h) (Or.inl ⟨by rfl, ?_⟩) ?_ ?_
  rotate_left
  · intro w'
    go_simp
    with_reducible rfl
  rotate_left
  · simp only [Act.put, List.setIfInBounds_toArray, List.set_cons_zero, List.set_cons_succ, i64_w, i32_w]
    rfl
  refine take_ (i := 8) (N := some 11) (v := ?_) (a' := ?_) #[true, true, true, true, true, true, false, true, true, false, false, false, false, false, false] rfl rfl (by kernel_rfl) (fun _ _ _ h => h) (Or.inl ⟨by rfl, ?_⟩) hHeld ?_ ?_
  rotate_left
  · rintro w' ⟨s0, s1, s2, s3, s4, s5⟩
    go_simp
    with_reducible rfl
  rotate_left
  · simp only [Act.put, List.setIfInBounds_toArray, List.set_cons_zero, List.set_cons_succ, i64_w, i32_w]
    rfl
  refine pure_ (i := 9) (N := some 12) (v := ?_) (a' := ?_) #[true, true, true, true, true, true, false, true, true, true, false, false, false, false, false] rfl rfl (by kernel_rfl) (fun _ _ _ h => h) (Or.inl ⟨by rfl, ?_⟩) ?_ ?_
  rotate_left
  · intro w'
    go_simp
    with_reducible rfl
  rotate_left
  · simp only [Act.put, List.setIfInBounds_toArray, List.set_cons_zero, List.set_cons_succ, i64_w, i32_w]
    rfl
  refine take_ (i := 10) (N := some 13) (v := ?_) (a' := ?_) #[true, true, true, true, true, true, false, true, true, true, true, false, false, false, false] rfl rfl (by kernel_rfl) (fun _ _ _ h => h) (Or.inl ⟨by rfl, ?_⟩) hHeld ?_ ?_
  rotate_left
  · rintro w' ⟨s0, s1, s2, s3, s4, s5⟩
    go_simp
    with_reducible rfl
  rotate_left
  · simp only [Act.put, List.setIfInBounds_toArray, List.set_cons_zero, List.set_cons_succ, i64_w, i32_w]
    rfl
  refine pure_ (i := 11) (N := some 14) (v := ?_) (a' := ?_) #[true, true, true, true, true, true, false, true, true, true, true, true, false, false, false] rfl rfl (by kernel_rfl) (fun _ _ _ h => h) (Or.inl ⟨by rfl, ?_⟩) ?_ ?_
  rotate_left
  · intro w'
    go_simp
    with_reducible rfl
  rotate_left
  · simp only [Act.put, List.setIfInBounds_toArray, List.set_cons_zero, List.set_cons_succ, i64_w, i32_w]
    rfl
  refine take_ (i := 12) (N := some 15) (v := ?_) (a' := ?_) #[true, true, true, true, true, true, false, true, true, true, true, true, true, false, false] rfl rfl (by kernel_rfl) (fun _ _ _ h => h) (Or.inl ⟨by rfl, ?_⟩) hHeld ?_ ?_
  rotate_left
  · rintro w' ⟨s0, s1, s2, s3, s4, s5⟩
    go_simp
    with_reducible rfl
  rotate_left
  · simp only [Act.put, List.setIfInBounds_toArray, List.set_cons_zero, List.set_cons_succ, i64_w, i32_w]
    rfl
  refine take_ (i := 13) (N := some 16) (v := ?_) (a' := ?_) #[true, true, true, true, true, true, false, true, true, true, true, true, true, true, false] rfl rfl (by kernel_rfl) (fun _ _ _ h => h) (Or.inl ⟨by rfl, ?_⟩) hHeld ?_ ?_
  rotate_left
  · rintro w' ⟨s0, s1, s2, s3, s4, s5⟩
    go_simp
    with_reducible rfl
  rotate_left
  · simp only [Act.put, List.setIfInBounds_toArray, List.set_cons_zero, List.set_cons_succ, i64_w, i32_w]
    rfl
  refine one_ (i := 6) (N := some 9) #[true, true, true, true, true, true, true, true, true, true, true, true, true, true, false] rfl rfl (by kernel_rfl) (by decide) (fun K hK => ?_)
  refine goes_ Try.func38 (by kernel_rfl) rfl #[.agg #[.slice a xs.length c], .int .i64 gen, .int .i64 used] (by rfl) rfl rfl (by (try simp only [List.map_toArray, List.map_cons, List.map_nil]); first | done | rfl) ?_
  refine (HP.out _ hd).mono ?_
  rintro e w1 ⟨rfl, hb1⟩
  refine ⟨_, rfl, ?_⟩
  have B1 := Lib.hid (blk_call hb1 BD.out)
  have P1 := Lib.hid (blk_call hb1 PD.out)
  have F1 := Lib.hid (blk_call hb1 FD.out)
  have s1 := Lib.hid (hd.stay hb1)
  refine hK.out _ _ ⟨blk_cell B1.out (j := 0) rfl, blk_cell B1.out (j := 1) rfl, blk_cell B1.out (j := 2) rfl, blk_cell P1.out (j := 0) rfl, blk_cell F1.out (j := 0) rfl, blk_cell F1.out (j := 1) rfl⟩ (fun hHeld => ?_)
  clear hK K
  refine norm_ (a' := ?_) ?_ ?_
  rotate_left
  · show Act.put _ (some 9) _ = _
    simp only [Act.put, List.setIfInBounds_toArray, List.set_cons_zero, List.set_cons_succ, i64_w, i32_w]
    rfl
  refine last_ (i := 14) (N := some 17) #[true, true, true, true, true, true, true, true, true, true, true, true, true, true, true] rfl rfl (by kernel_rfl) (by decide) (fun K hK => ?_)
  refine goesP_ Try.func50 (by kernel_rfl) rfl #[.pointer (some ⟨gs, 0, none⟩), .int .i64 q, .int .i64 gen, .int .i64 (used + 1), .string p, .agg #[.int .i64 2, .int .i64 fK]] (by rfl) rfl (by (try simp only [List.map_toArray, List.map_cons, List.map_nil]); first | done | rfl) ?_
  refine (HW.out _ B1.out s1.out).mono ?_
  rintro e w2 ⟨v2, rfl, hB2, hS2, hF2, hG2⟩
  refine ⟨_, rfl, ?_⟩
  exact ⟨rfl, v2, rfl, hB2, hS2, hF2.mono (show w.drew.heap.size ≤ _ from hb1.size), (gr_bel (row := some gs) (show Below w.heap.size w w1 from (bdn (Below.refl _ _) 1).trans ⟨hb1.os, hb1.tape, hb1.output, hb1.size, fun i hi => hb1.block i hi⟩)).trans hG2⟩
theorem gr_setnew {w w1 : World} {r : Option Nat} (h : w.grownBy w1 r) {b j : Nat} (hb : w.heap.size ≤ b) (u : Value) : w.grownBy (w1.setCell ⟨b, j, none⟩ u) r :=
  ⟨h.os, h.tape, h.output, by have := h.size; simpa [World.setCell] using this, fun i hi hne => (Below.heap_setCell w1 ⟨b, j, none⟩ u i (by show i ≠ b; omega)).trans (h.block i hi hne)⟩
theorem astop_ok (gs gp gf : Nat) (v : Value) (xs : List ByteArray) (gen used top : Int) (down : Bool) (p : ByteArray) (fk fK : Int) (w : World)
    (hB : w.heap[gs]? = some (.cells (SC v gen used top down) 26 (0, 0))) (hP : w.heap[gp]? = some (.cells #[.string p] 9 (0, 0))) (hF : w.heap[gf]? = some (.cells #[.int .i64 fk, .int .i64 fK] 45 (0, 0)))
    (hS : SlAt w v 1 xs.length (strs xs)) (hne : ∀ b, v.ownBlock = some b → b ≠ gs) (hl : xs.length ≤ 1000) (g0 : 0 ≤ gen) (g1 : gen ≤ 1000) (u0 : 0 ≤ used) (u1 : used ≤ 900) (h1 : fk ≠ 1) (h2 : fk ≠ 2) :
    Calls Try.prog 48 #[.func (.func 49) #[] #[.pointer (some ⟨gs, 0, none⟩), .pointer (some ⟨gp, 0, none⟩), .pointer (some ⟨gf, 0, none⟩)]] w fun e w' =>
      ∃ v', e = .returned (.int .i64 0) ∧ w'.heap[gs]? = some (.cells (SC v' gen (used + 1) top down) 26 (0, 0)) ∧ SlAt w' v' 1 (tearL xs (placeD xs gen used) (sealS gen (used + 1) p) 128).length (strs (tearL xs (placeD xs gen used) (sealS gen (used + 1) p) 128)) ∧ FreshV w.heap.size v' ∧ w.grownBy w' (some gs) := by
  have ha := app1_ok gs gp gf v xs gen used top down p fk fK (w.alloc (.cells #[.int .i64 0] 29)) (blk_alloc _ hB) (blk_alloc _ hP) (blk_alloc _ hF) (hS.alloc _) hne hl g0 g1 u0 u1 h1 h2
  have he : Enters Try.prog 49 := enters_of Try.func49 (by kernel_rfl) rfl
  have hg : gs < w.heap.size := blk_lt hB
  have hsz : (w.alloc (.cells #[.int .i64 0] 29)).heap.size = w.heap.size + 1 := size_alloc _ _
  obtain ⟨ys, hys⟩ : ∃ ys, ys = tearL xs (placeD xs gen used) (sealS gen (used + 1) p) 128 := ⟨_, rfl⟩
  rw [← hys] at ha ⊢
  refine (stop_ret _ _ w (fun w1 => ∃ v', w1.heap[gs]? = some (.cells (SC v' gen (used + 1) top down) 26 (0, 0)) ∧ SlAt w1 v' 1 ys.length (strs ys) ∧ FreshV (w.heap.size + 1) v' ∧ (w.alloc (.cells #[.int .i64 0] 29)).grownBy w1 (some gs)) he (ha.mono ?_)).mono ?_
  · rintro e w' ⟨v', rfl, k1, k2, k3, k4⟩
    exact ⟨rfl, (k4.block w.heap.size (by omega) (fun e => by have := Option.some.inj e; omega)).trans (blk_new w _), v', k1, k2, k3.mono (by omega), k4⟩
  · rintro e w' ⟨w1, ⟨v', k1, k2, k3, k4⟩, rfl, rfl⟩
    exact ⟨v', rfl, blk_set_far k1 (by show gs ≠ w.heap.size; omega) _, k2.store (p := ⟨w.heap.size, 0, none⟩) (fun b hb => by have := k3 b hb; show b ≠ w.heap.size; omega) _, k3.mono (by omega), gr_setnew ((gr_bel (row := some gs) (bal (Below.refl w.heap.size w) _)).trans k4) (Nat.le_refl _) _⟩
theorem astop_crash (gs gp gf : Nat) (v : Value) (xs : List ByteArray) (gen used top : Int) (down : Bool) (p : ByteArray) (fK : Int) (w : World)
    (hB : w.heap[gs]? = some (.cells (SC v gen used top down) 26 (0, 0))) (hP : w.heap[gp]? = some (.cells #[.string p] 9 (0, 0))) (hF : w.heap[gf]? = some (.cells #[.int .i64 2, .int .i64 fK] 45 (0, 0)))
    (hS : SlAt w v 1 xs.length (strs xs)) (hne : ∀ b, v.ownBlock = some b → b ≠ gs) (hl : xs.length ≤ 1000) (g0 : 0 ≤ gen) (g1 : gen ≤ 1000) (u0 : 0 ≤ used) (u1 : used ≤ 900) :
    Calls Try.prog 48 #[.func (.func 49) #[] #[.pointer (some ⟨gs, 0, none⟩), .pointer (some ⟨gp, 0, none⟩), .pointer (some ⟨gf, 0, none⟩)]] w fun e w' =>
      ∃ v', e = .returned (.int .i64 9) ∧ w'.heap[gs]? = some (.cells (SC v' gen used top true) 26 (0, 0)) ∧ SlAt w' v' 1 (tearL xs (placeD xs gen used) (sealS gen (used + 1) p) fK).length (strs (tearL xs (placeD xs gen used) (sealS gen (used + 1) p) fK)) ∧ FreshV w.heap.size v' ∧ w.grownBy w' (some gs) := by
  have ha := app1_crash gs gp gf v xs gen used top down p fK (w.alloc (.cells #[.int .i64 0] 29)) (blk_alloc _ hB) (blk_alloc _ hP) (blk_alloc _ hF) (hS.alloc _) hne hl g0 g1 u0 u1
  have he : Enters Try.prog 49 := enters_of Try.func49 (by kernel_rfl) rfl
  have hg : gs < w.heap.size := blk_lt hB
  have hsz : (w.alloc (.cells #[.int .i64 0] 29)).heap.size = w.heap.size + 1 := size_alloc _ _
  obtain ⟨ys, hys⟩ : ∃ ys, ys = tearL xs (placeD xs gen used) (sealS gen (used + 1) p) fK := ⟨_, rfl⟩
  rw [← hys] at ha ⊢
  refine (stop_pan _ _ 9 w (fun w1 => ∃ v', w1.heap[gs]? = some (.cells (SC v' gen used top true) 26 (0, 0)) ∧ SlAt w1 v' 1 ys.length (strs ys) ∧ FreshV (w.heap.size + 1) v' ∧ (w.alloc (.cells #[.int .i64 0] 29)).grownBy w1 (some gs)) he (ha.mono ?_)).mono ?_
  · rintro e w' ⟨v', rfl, k1, k2, k3, k4⟩
    exact ⟨rfl, (k4.block w.heap.size (by omega) (fun e => by have := Option.some.inj e; omega)).trans (blk_new w _), v', k1, k2, k3.mono (by omega), k4⟩
  · rintro e w' ⟨w1, ⟨v', k1, k2, k3, k4⟩, rfl, rfl⟩
    exact ⟨v', rfl, blk_set_far (blk_alloc _ k1) (by show gs ≠ w.heap.size; omega) _, (k2.alloc _).store (p := ⟨w.heap.size, 0, none⟩) (fun b hb => by have := k3 b hb; show b ≠ w.heap.size; omega) _, k3.mono (by omega), gr_setnew (((gr_bel (row := some gs) (bal (Below.refl w.heap.size w) _)).trans k4).trans (gr_bel (bal (Below.refl _ _) _))) (Nat.le_refl _) _⟩
theorem astop_fail (gs gp gf : Nat) (v : Value) (xs : List ByteArray) (gen used top : Int) (down : Bool) (p : ByteArray) (fK : Int) (w : World)
    (hB : w.heap[gs]? = some (.cells (SC v gen used top down) 26 (0, 0))) (hP : w.heap[gp]? = some (.cells #[.string p] 9 (0, 0))) (hF : w.heap[gf]? = some (.cells #[.int .i64 1, .int .i64 fK] 45 (0, 0)))
    (hS : SlAt w v 1 xs.length (strs xs)) (hne : ∀ b, v.ownBlock = some b → b ≠ gs) (hl : xs.length ≤ 1000) (g0 : 0 ≤ gen) (g1 : gen ≤ 1000) (u0 : 0 ≤ used) (u1 : used ≤ 900) :
    Calls Try.prog 48 #[.func (.func 49) #[] #[.pointer (some ⟨gs, 0, none⟩), .pointer (some ⟨gp, 0, none⟩), .pointer (some ⟨gf, 0, none⟩)]] w fun e w' =>
      e = .returned (.int .i64 8) ∧ Below w.heap.size w w' := by
  have ha := app1_fail gs gp gf v xs gen used top down p fK (w.alloc (.cells #[.int .i64 0] 29)) (blk_alloc _ hB) (blk_alloc _ hP) (blk_alloc _ hF) (hS.alloc _) hne hl g0 g1 u0 u1
  have he : Enters Try.prog 49 := enters_of Try.func49 (by kernel_rfl) rfl
  have hg : gs < w.heap.size := blk_lt hB
  have hsz : (w.alloc (.cells #[.int .i64 0] 29)).heap.size = w.heap.size + 1 := size_alloc _ _
  refine (stop_pan _ _ 8 w (fun w1 => Below (w.alloc (.cells #[.int .i64 0] 29)).heap.size (w.alloc (.cells #[.int .i64 0] 29)) w1) he (ha.mono ?_)).mono ?_
  · rintro e w' ⟨rfl, k1⟩
    exact ⟨rfl, blk_call k1 (blk_new w _), k1⟩
  · rintro e w' ⟨w1, k1, rfl, rfl⟩
    exact ⟨rfl, bset (bal (bel (bal (Below.refl w.heap.size w) _) k1) _) (Nat.le_refl _) _⟩
theorem slat_blk {W : World} {b n sz : Nat} {T : TypeId} {cs : List Value} (h : W.heap[b]? = some (.cells cs.toArray T (0, 0))) (hl : cs.length = n * sz) (hn : n ≤ maxLen) : SlAt W (.slice (some ⟨b, 0, none⟩) n n) sz n cs :=
  ⟨hl, some ⟨b, 0, none⟩, n, rfl, Nat.le_refl _, hn, .inr ⟨b, 0, rfl, blk_lt h, fun j u hu => by rw [Nat.zero_add]; exact blk_cell h (by simpa using hu)⟩⟩
theorem al5 (w : World) (o1 o2 o3 o4 o5 o6 : Obj) : ((((((w.alloc o1).alloc o2).alloc o3).alloc o4).alloc o5).alloc o6).heap[w.heap.size + 1 + 1 + 1 + 1]? = some o5 := by
  have := blk_alloc o6 (blk_new ((((w.alloc o1).alloc o2).alloc o3).alloc o4) o5)
  rwa [size_alloc, size_alloc, size_alloc, size_alloc] at this
theorem al6 (w : World) (o1 o2 o3 o4 o5 o6 : Obj) : ((((((w.alloc o1).alloc o2).alloc o3).alloc o4).alloc o5).alloc o6).heap[w.heap.size + 1 + 1 + 1 + 1 + 1]? = some o6 := by
  have := blk_new (((((w.alloc o1).alloc o2).alloc o3).alloc o4).alloc o5) o6
  rwa [size_alloc, size_alloc, size_alloc, size_alloc, size_alloc] at this
theorem al4 (w : World) (o1 o2 o3 o4 o5 o6 : Obj) : ((((((w.alloc o1).alloc o2).alloc o3).alloc o4).alloc o5).alloc o6).heap[w.heap.size + 1 + 1 + 1]? = some o4 := by
  have := blk_alloc o6 (blk_alloc o5 (blk_new (((w.alloc o1).alloc o2).alloc o3) o4))
  rwa [size_alloc, size_alloc, size_alloc] at this
theorem al3 (w : World) (o1 o2 o3 o4 o5 o6 : Obj) : ((((((w.alloc o1).alloc o2).alloc o3).alloc o4).alloc o5).alloc o6).heap[w.heap.size + 1 + 1]? = some o3 := by
  have := blk_alloc o6 (blk_alloc o5 (blk_alloc o4 (blk_new ((w.alloc o1).alloc o2) o3)))
  rwa [size_alloc, size_alloc] at this
theorem al2 (w : World) (o1 o2 o3 o4 o5 o6 : Obj) : ((((((w.alloc o1).alloc o2).alloc o3).alloc o4).alloc o5).alloc o6).heap[w.heap.size + 1]? = some o2 := by
  have := blk_alloc o6 (blk_alloc o5 (blk_alloc o4 (blk_alloc o3 (blk_new (w.alloc o1) o2))))
  rwa [size_alloc] at this
theorem al1 (w : World) (o1 o2 o3 o4 o5 o6 : Obj) : ((((((w.alloc o1).alloc o2).alloc o3).alloc o4).alloc o5).alloc o6).heap[w.heap.size]? = some o1 := blk_alloc o6 (blk_alloc o5 (blk_alloc o4 (blk_alloc o3 (blk_alloc o2 (blk_new w o1)))))
def Sto.zero : Sto := ⟨[], 0, 0, 0, false⟩
def appS (s : Sto) (p : ByteArray) (f : Flt) : Sto × Int :=
  if f.kind = 1 then (s, 8) else if f.kind = 2 then ({ s with xs := tearL s.xs (placeD s.xs s.gen s.used) (sealS s.gen (s.used + 1) p) f.k, down := true }, 9)
  else ({ s with xs := tearL s.xs (placeD s.xs s.gen s.used) (sealS s.gen (s.used + 1) p) 128, used := s.used + 1 }, 0)
def appendS (s : Sto) (p : ByteArray) (f : Flt) : Sto × Int :=
  if mayS s [p] [f] = 0 then (if s.used = areaD s.xs then (Sto.zero, 5) else appS s p f) else (Sto.zero, mayS s [p] [f])
def StoRes (s : Sto) (k : Int) (v : Value) (w : World) (e : Ending) (w' : World) : Prop :=
  ∃ v', e = .returned (.tuple #[s.val v', .int .i64 k]) ∧ (v' = v ∨ FreshV w.heap.size v') ∧ SlAt w' v' 1 s.xs.length (strs s.xs) ∧ Below w.heap.size w w'
theorem append_bad (s : Sto) (v : Value) (p : ByteArray) (f : Flt) (k : Int) (w : World) (hS : SlAt w v 1 s.xs.length (strs s.xs)) (hm : mayS s [p] [f] = k) (hk : k ≠ 0) :
    Calls Try.prog 21 #[s.val v, .string p, fltV f] w (StoRes Sto.zero k v w) := by
  have HM := Lib.hid (fun W v1 v2 (h : SlAt W v 1 s.xs.length (strs s.xs)) (h1 : SlAt W v1 1 1 (strs [p])) (h2 : SlAt W v2 2 1 (fltsC [f])) => by have := storeMay_any s v v1 v2 [p] [f] W h h1 h2; rw [hm] at this; exact this)
  have HS := Lib.hid hS
  obtain ⟨xs, gen, used, top, down⟩ := s
  obtain ⟨fk, fK⟩ := f
  obtain ⟨a, c, rfl, _, _⟩ := hS.form
  have hne : (k != 0) = true := by simpa using hk
  clear hS hm hk
  unfold Sto.val fltV at *
  go_enter Try.func21, Try.ntmps21
  go_wp2_with (first
    | (go_at_call 47; refine (HM.out _ _ _ (HS.out.stay (bal (bal (bal (bal (bal (bal (Below.refl _ _) _) _) _) _) _) _)) (slat_blk (cs := strs [p]) (T := 9) (al5 w _ _ _ _ _ _) rfl (by decide)) (slat_blk (cs := fltsC [⟨fk, fK⟩]) (T := 45) (al6 w _ _ _ _ _ _) rfl (by decide))).mono ?_; rintro e w1 ⟨rfl, hb1⟩; have K4 := Lib.hid (blk_call hb1 (al4 w _ _ _ _ _ _)); have x0 := blk_cell K4.out (j := 0) rfl; have x1 := blk_cell K4.out (j := 1) rfl; have x2 := blk_cell K4.out (j := 2) rfl; have x3 := blk_cell K4.out (j := 3) rfl; have x4 := blk_cell K4.out (j := 4) rfl; have f0 := blk_free K4.out 0; have f1 := blk_free K4.out 1; have f2 := blk_free K4.out 2; have f3 := blk_free K4.out 3; have f4 := blk_free K4.out 4))
  have hw1 := bel (bal (bal (bal (bal (bal (bal (Below.refl w.heap.size w) _) _) _) _) _) _) hb1
  refine bodyPost_ret (v := .tuple #[Sto.zero.val (.slice none 0 0), .int .i64 k]) ?_ rfl ?_
  · simp [results, Try.results21, go_sem, Sto.val, Sto.zero, x0, x1, x2, x3, x4]
  · refine ⟨.slice none 0 0, rfl, .inr (FreshV.nil _ _ _), SlAt.nil _ _, ?_⟩
    exact bset (bset (bset (bset (bset hw1 (show w.heap.size ≤ w.heap.size + 1 + 1 + 1 by omega) _) (show w.heap.size ≤ w.heap.size + 1 + 1 + 1 by omega) _) (show w.heap.size ≤ w.heap.size + 1 + 1 + 1 by omega) _) (show w.heap.size ≤ w.heap.size + 1 + 1 + 1 by omega) _) (show w.heap.size ≤ w.heap.size + 1 + 1 + 1 by omega) _
theorem append_full (s : Sto) (v : Value) (p : ByteArray) (f : Flt) (w : World) (hS : SlAt w v 1 s.xs.length (strs s.xs)) (hm : mayS s [p] [f] = 0) (hu : s.used = areaD s.xs) :
    Calls Try.prog 21 #[s.val v, .string p, fltV f] w (StoRes Sto.zero 5 v w) := by
  have HM := Lib.hid (fun W v1 v2 (h : SlAt W v 1 s.xs.length (strs s.xs)) (h1 : SlAt W v1 1 1 (strs [p])) (h2 : SlAt W v2 2 1 (fltsC [f])) => by have := storeMay_any s v v1 v2 [p] [f] W h h1 h2; rw [hm] at this; exact this)
  have HS := Lib.hid hS
  obtain ⟨xs, gen, used, top, down⟩ := s
  obtain ⟨fk, fK⟩ := f
  obtain ⟨a, c, rfl, _, _⟩ := hS.form
  simp only at hu HS HM
  have HA := Lib.hid (fun W (h : SlAt W (Value.slice a xs.length c) 1 xs.length (strs xs)) => area_any _ xs W h)
  rw [← hu] at HA
  clear hS hm hu
  unfold Sto.val fltV at *
  go_enter Try.func21, Try.ntmps21
  go_wp2_with (first
    | (go_at_call 47; refine (HM.out _ _ _ (HS.out.stay (bal (bal (bal (bal (bal (bal (Below.refl _ _) _) _) _) _) _) _)) (slat_blk (cs := strs [p]) (T := 9) (al5 w _ _ _ _ _ _) rfl (by decide)) (slat_blk (cs := fltsC [⟨fk, fK⟩]) (T := 45) (al6 w _ _ _ _ _ _) rfl (by decide))).mono ?_; rintro e w1 ⟨rfl, hb1⟩; have K4 := Lib.hid (blk_call hb1 (al4 w _ _ _ _ _ _)); have K1 := Lib.hid (blk_call hb1 (al1 w _ _ _ _ _ _)); have y0 : w1.drew.cell? ⟨w.heap.size, 0, none⟩ = some (Value.slice a xs.length c) := blk_cell (show w1.drew.heap[w.heap.size]? = _ from K1.out) (j := 0) rfl; have y2 : w1.drew.cell? ⟨w.heap.size, 2, none⟩ = some (.int .i64 used) := blk_cell (show w1.drew.heap[w.heap.size]? = _ from K1.out) (j := 2) rfl))
  have hw1 := bel (bal (bal (bal (bal (bal (bal (Below.refl w.heap.size w) _) _) _) _) _) _) hb1
  have hd1 : SlAt w1.drew (Value.slice a xs.length c) 1 xs.length (strs xs) := HS.out.stay (bdn hw1 1)
  refine start_ (n := 6) (S := fun w' => w'.cell? ⟨w.heap.size, 0, none⟩ = some (Value.slice a xs.length c) ∧ w'.cell? ⟨w.heap.size, 2, none⟩ = some (.int .i64 used)) (ds := []) #[false, false, false, false, false, false] (by kernel_rfl) rfl rfl ⟨y0, y2⟩ (fun hHeld => ?_)
  refine pure_ (i := 0) (N := some 20) (v := ?_) (a' := ?_) #[true, false, false, false, false, false] rfl rfl (by kernel_rfl) (fun _ _ _ h => h) (Or.inl ⟨by rfl, ?_⟩) ?_ ?_
  rotate_left
  · intro w'
    go_simp
    with_reducible rfl
  rotate_left
  · simp only [Act.put, List.setIfInBounds_toArray, List.set_cons_zero, List.set_cons_succ, i64_w, i32_w]
    rfl
  refine take_ (i := 1) (N := some 21) (v := ?_) (a' := ?_) #[true, true, false, false, false, false] rfl rfl (by kernel_rfl) (fun _ _ _ h => h) (Or.inl ⟨by rfl, ?_⟩) hHeld ?_ ?_
  rotate_left
  · rintro w' ⟨s0, s1⟩
    go_simp
    with_reducible rfl
  rotate_left
  · simp only [Act.put, List.setIfInBounds_toArray, List.set_cons_zero, List.set_cons_succ, i64_w, i32_w]
    rfl
  refine pure_ (i := 2) (N := some 22) (v := ?_) (a' := ?_) #[true, true, true, false, false, false] rfl rfl (by kernel_rfl) (fun _ _ _ h => h) (Or.inl ⟨by rfl, ?_⟩) ?_ ?_
  rotate_left
  · intro w'
    go_simp
    with_reducible rfl
  rotate_left
  · simp only [Act.put, List.setIfInBounds_toArray, List.set_cons_zero, List.set_cons_succ, i64_w, i32_w]
    rfl
  refine take_ (i := 3) (N := some 23) (v := ?_) (a' := ?_) #[true, true, true, true, false, false] rfl rfl (by kernel_rfl) (fun _ _ _ h => h) (Or.inl ⟨by rfl, ?_⟩) hHeld ?_ ?_
  rotate_left
  · rintro w' ⟨s0, s1⟩
    go_simp
    with_reducible rfl
  rotate_left
  · simp only [Act.put, List.setIfInBounds_toArray, List.set_cons_zero, List.set_cons_succ, i64_w, i32_w]
    rfl
  refine one_ (i := 4) (N := some 24) #[true, true, true, true, true, false] rfl rfl (by kernel_rfl) (by decide) (fun K hK => ?_)
  refine goes_ Try.func37 (by kernel_rfl) rfl #[.agg #[.slice a xs.length c]] (by rfl) rfl rfl (by (try simp only [List.map_toArray, List.map_cons, List.map_nil]); first | done | rfl) ?_
  refine (HA.out _ hd1).mono ?_
  rintro e w2 ⟨rfl, hb2⟩
  refine ⟨_, rfl, ?_⟩
  have J1 := Lib.hid (blk_call hb2 K1.out)
  have J4 := Lib.hid (blk_call hb2 K4.out)
  refine hK.out _ _ ⟨blk_cell J1.out (j := 0) rfl, blk_cell J1.out (j := 2) rfl⟩ (fun hHeld => ?_)
  clear hK K
  refine norm_ (a' := ?_) ?_ ?_
  rotate_left
  · show Act.put _ (some 24) _ = _
    simp only [Act.put, List.setIfInBounds_toArray, List.set_cons_zero, List.set_cons_succ, i64_w, i32_w]
    rfl
  refine pure_ (i := 5) (N := some 25) (v := ?_) (a' := ?_) #[true, true, true, true, true, true] rfl rfl (by kernel_rfl) (fun _ _ _ h => h) (Or.inl ⟨by rfl, ?_⟩) ?_ ?_
  rotate_left
  · intro w'
    go_simp
    with_reducible rfl
  rotate_left
  · simp only [Act.put, List.setIfInBounds_toArray, List.set_cons_zero, List.set_cons_succ, i64_w, i32_w]
    rfl
  refine done_ (by kernel_rfl) ?_
  have x0 := blk_cell J4.out (j := 0) rfl
  have x1 := blk_cell J4.out (j := 1) rfl
  have x2 := blk_cell J4.out (j := 2) rfl
  have x3 := blk_cell J4.out (j := 3) rfl
  have x4 := blk_cell J4.out (j := 4) rfl
  have f0 := blk_free J4.out 0
  have f1 := blk_free J4.out 1
  have f2 := blk_free J4.out 2
  have f3 := blk_free J4.out 3
  have f4 := blk_free J4.out 4
  go_wp2
  have hw2 := bel (bdn hw1 1) hb2
  refine bodyPost_ret (v := .tuple #[Sto.zero.val (.slice none 0 0), .int .i64 5]) ?_ rfl ?_
  · simp [results, Try.results21, go_sem, Sto.val, Sto.zero, x0, x1, x2, x3, x4]
  · refine ⟨.slice none 0 0, rfl, .inr (FreshV.nil _ _ _), SlAt.nil _ _, ?_⟩
    exact bset (bset (bset (bset (bset hw2 (show w.heap.size ≤ w.heap.size + 1 + 1 + 1 by omega) _) (show w.heap.size ≤ w.heap.size + 1 + 1 + 1 by omega) _) (show w.heap.size ≤ w.heap.size + 1 + 1 + 1 by omega) _) (show w.heap.size ≤ w.heap.size + 1 + 1 + 1 by omega) _) (show w.heap.size ≤ w.heap.size + 1 + 1 + 1 by omega) _
set_option maxHeartbeats 8000000 in
theorem append_go (xs ys : List ByteArray) (gen used top used' k : Int) (down down' : Bool) (v : Value) (p : ByteArray) (fk fK : Int) (w : World) (hS : SlAt w v 1 xs.length (strs xs)) (hm : mayS ⟨xs, gen, used, top, down⟩ [p] [⟨fk, fK⟩] = 0) (hu : used ≠ areaD xs)
    (hst : ∀ W : World, w.heap.size ≤ W.heap.size → W.heap[w.heap.size]? = some (.cells (SC v gen used top down) 26 (0, 0)) → W.heap[w.heap.size + 1]? = some (.cells #[.string p] 9 (0, 0)) → W.heap[w.heap.size + 1 + 1]? = some (.cells #[.int .i64 fk, .int .i64 fK] 45 (0, 0)) → SlAt W v 1 xs.length (strs xs) →
      Calls Try.prog 48 #[.func (.func 49) #[] #[.pointer (some ⟨w.heap.size, 0, none⟩), .pointer (some ⟨w.heap.size + 1, 0, none⟩), .pointer (some ⟨w.heap.size + 1 + 1, 0, none⟩)]] W fun e w' =>
        ∃ v', e = .returned (.int .i64 k) ∧ w'.heap[w.heap.size]? = some (.cells (SC v' gen used' top down') 26 (0, 0)) ∧ SlAt w' v' 1 ys.length (strs ys) ∧ ((v' = v ∧ ys = xs) ∨ FreshV W.heap.size v') ∧ W.grownBy w' (some w.heap.size)) :
    Calls Try.prog 21 #[.agg (SC v gen used top down), .string p, .agg #[.int .i64 fk, .int .i64 fK]] w (StoRes ⟨ys, gen, used', top, down'⟩ k v w) := by
  have HM := Lib.hid (fun W v1 v2 (h : SlAt W v 1 xs.length (strs xs)) (h1 : SlAt W v1 1 1 (strs [p])) (h2 : SlAt W v2 2 1 (fltsC [⟨fk, fK⟩])) => by have := storeMay_any ⟨xs, gen, used, top, down⟩ v v1 v2 [p] [⟨fk, fK⟩] W h h1 h2; rw [hm] at this; exact this)
  have HS := Lib.hid hS
  have HT := Lib.hid hst
  obtain ⟨a, c, rfl, _, _⟩ := hS.form
  have HA := Lib.hid (fun W (h : SlAt W (Value.slice a xs.length c) 1 xs.length (strs xs)) => area_any _ xs W h)
  obtain ⟨A, hA⟩ : ∃ A, A = areaD xs := ⟨_, rfl⟩
  rw [← hA] at HA hu
  have hne : (used == A) = false := by simpa using hu
  have hmf : ∀ (fn : Fn) (first cap : Array Value) (w : World), (Instr.makeFunc fn first cap).run Try.prog w = .ok (.func fn first cap) w := fun _ _ _ _ => rfl
  clear hS hm hu hA hst
  unfold Sto.val at *
  go_enter Try.func21, Try.ntmps21
  go_wp2_with (first
    | (go_at_call 47; refine (HM.out _ _ _ (HS.out.stay (bal (bal (bal (bal (bal (bal (Below.refl _ _) _) _) _) _) _) _)) (slat_blk (cs := strs [p]) (T := 9) (al5 w _ _ _ _ _ _) rfl (by decide)) (slat_blk (cs := fltsC [⟨fk, fK⟩]) (T := 45) (al6 w _ _ _ _ _ _) rfl (by decide))).mono ?_; rintro e w1 ⟨rfl, hb1⟩; have K4 := Lib.hid (blk_call hb1 (al4 w _ _ _ _ _ _)); have K1 := Lib.hid (blk_call hb1 (al1 w _ _ _ _ _ _)); have K2 := Lib.hid (blk_call hb1 (al2 w _ _ _ _ _ _)); have K3 := Lib.hid (blk_call hb1 (al3 w _ _ _ _ _ _)); have y0 : w1.drew.cell? ⟨w.heap.size, 0, none⟩ = some (Value.slice a xs.length c) := blk_cell (show w1.drew.heap[w.heap.size]? = _ from K1.out) (j := 0) rfl; have y2 : w1.drew.cell? ⟨w.heap.size, 2, none⟩ = some (.int .i64 used) := blk_cell (show w1.drew.heap[w.heap.size]? = _ from K1.out) (j := 2) rfl))
  have hw1 := bel (bal (bal (bal (bal (bal (bal (Below.refl w.heap.size w) _) _) _) _) _) _) hb1
  have hd1 : SlAt w1.drew (Value.slice a xs.length c) 1 xs.length (strs xs) := HS.out.stay (bdn hw1 1)
  refine start_ (n := 6) (S := fun w' => w'.cell? ⟨w.heap.size, 0, none⟩ = some (Value.slice a xs.length c) ∧ w'.cell? ⟨w.heap.size, 2, none⟩ = some (.int .i64 used)) (ds := []) #[false, false, false, false, false, false] (by kernel_rfl) rfl rfl ⟨y0, y2⟩ (fun hHeld => ?_)
  refine pure_ (i := 0) (N := some 20) (v := ?_) (a' := ?_) #[true, false, false, false, false, false] rfl rfl (by kernel_rfl) (fun _ _ _ h => h) (Or.inl ⟨by rfl, ?_⟩) ?_ ?_
  rotate_left
  · intro w'
    go_simp
    with_reducible rfl
  rotate_left
  · simp only [Act.put, List.setIfInBounds_toArray, List.set_cons_zero, List.set_cons_succ, i64_w, i32_w]
    rfl
  refine take_ (i := 1) (N := some 21) (v := ?_) (a' := ?_) #[true, true, false, false, false, false] rfl rfl (by kernel_rfl) (fun _ _ _ h => h) (Or.inl ⟨by rfl, ?_⟩) hHeld ?_ ?_
  rotate_left
  · rintro w' ⟨s0, s1⟩
    go_simp
    with_reducible rfl
  rotate_left
  · simp only [Act.put, List.setIfInBounds_toArray, List.set_cons_zero, List.set_cons_succ, i64_w, i32_w]
    rfl
  refine pure_ (i := 2) (N := some 22) (v := ?_) (a' := ?_) #[true, true, true, false, false, false] rfl rfl (by kernel_rfl) (fun _ _ _ h => h) (Or.inl ⟨by rfl, ?_⟩) ?_ ?_
  rotate_left
  · intro w'
    go_simp
    with_reducible rfl
  rotate_left
  · simp only [Act.put, List.setIfInBounds_toArray, List.set_cons_zero, List.set_cons_succ, i64_w, i32_w]
    rfl
  refine take_ (i := 3) (N := some 23) (v := ?_) (a' := ?_) #[true, true, true, true, false, false] rfl rfl (by kernel_rfl) (fun _ _ _ h => h) (Or.inl ⟨by rfl, ?_⟩) hHeld ?_ ?_
  rotate_left
  · rintro w' ⟨s0, s1⟩
    go_simp
    with_reducible rfl
  rotate_left
  · simp only [Act.put, List.setIfInBounds_toArray, List.set_cons_zero, List.set_cons_succ, i64_w, i32_w]
    rfl
  refine one_ (i := 4) (N := some 24) #[true, true, true, true, true, false] rfl rfl (by kernel_rfl) (by decide) (fun K hK => ?_)
  refine goes_ Try.func37 (by kernel_rfl) rfl #[.agg #[.slice a xs.length c]] (by rfl) rfl rfl (by (try simp only [List.map_toArray, List.map_cons, List.map_nil]); first | done | rfl) ?_
  refine (HA.out _ hd1).mono ?_
  rintro e w2 ⟨rfl, hb2⟩
  refine ⟨_, rfl, ?_⟩
  have J1 := Lib.hid (blk_call hb2 K1.out)
  have J4 := Lib.hid (blk_call hb2 K4.out)
  refine hK.out _ _ ⟨blk_cell J1.out (j := 0) rfl, blk_cell J1.out (j := 2) rfl⟩ (fun hHeld => ?_)
  clear hK K
  refine norm_ (a' := ?_) ?_ ?_
  rotate_left
  · show Act.put _ (some 24) _ = _
    simp only [Act.put, List.setIfInBounds_toArray, List.set_cons_zero, List.set_cons_succ, i64_w, i32_w]
    rfl
  refine pure_ (i := 5) (N := some 25) (v := ?_) (a' := ?_) #[true, true, true, true, true, true] rfl rfl (by kernel_rfl) (fun _ _ _ h => h) (Or.inl ⟨by rfl, ?_⟩) ?_ ?_
  rotate_left
  · intro w'
    go_simp
    with_reducible rfl
  rotate_left
  · simp only [Act.put, List.setIfInBounds_toArray, List.set_cons_zero, List.set_cons_succ, i64_w, i32_w]
    rfl
  refine done_ (by kernel_rfl) ?_
  have J2 := Lib.hid (blk_call hb2 K2.out)
  have J3 := Lib.hid (blk_call hb2 K3.out)
  have hw2 := bel (bdn hw1 1) hb2
  go_wp2_with (go_at_call 48; refine (HT.out _ hw2.size J1.out J2.out J3.out (HS.out.stay hw2)).mono ?_; rintro e w3 ⟨v3, rfl, hB3, hS3, hF3, hG3⟩; obtain ⟨a3, c3, rfl, _, _⟩ := hS3.form; have X4 := Lib.hid ((hG3.block (w.heap.size + 1 + 1 + 1) (blk_lt J4.out) (fun e => by have := Option.some.inj e; omega)).trans J4.out); have B3 := Lib.hid hB3; have q0 : w3.cell? ⟨w.heap.size, 0, none⟩ = some (Value.slice a3 ys.length c3) := blk_cell B3.out (j := 0) rfl; have q1 : w3.cell? ⟨w.heap.size, 1, none⟩ = some (Value.int .i64 gen) := blk_cell B3.out (j := 1) rfl; have q2 : w3.cell? ⟨w.heap.size, 2, none⟩ = some (Value.int .i64 used') := blk_cell B3.out (j := 2) rfl; have q3 : w3.cell? ⟨w.heap.size, 3, none⟩ = some (Value.int .i64 top) := blk_cell B3.out (j := 3) rfl; have q4 : w3.cell? ⟨w.heap.size, 4, none⟩ = some (Value.bool down') := blk_cell B3.out (j := 4) rfl; have x0 := blk_cell X4.out (j := 0) rfl; have x1 := blk_cell X4.out (j := 1) rfl; have x2 := blk_cell X4.out (j := 2) rfl; have x3 := blk_cell X4.out (j := 3) rfl; have x4 := blk_cell X4.out (j := 4) rfl; have f0 := blk_free X4.out 0; have f1 := blk_free X4.out 1; have f2 := blk_free X4.out 2; have f3 := blk_free X4.out 3; have f4 := blk_free X4.out 4; clear hB3)
  refine bodyPost_ret (v := .tuple #[.agg (SC (.slice a3 ys.length c3) gen used' top down'), .int .i64 k]) ?_ rfl ?_
  · simp [results, Try.results21, go_sem, x0, x1, x2, x3, x4]
  · have hn := blk_lt J4.out
    have hw3 : Below w.heap.size w w3 := ⟨hG3.os.trans hw2.os, hG3.tape.trans hw2.tape, hG3.output.trans hw2.output, Nat.le_trans hw2.size hG3.size, fun i hi => (hG3.block i (Nat.lt_of_lt_of_le hi hw2.size) (fun e => by have := Option.some.inj e; omega)).trans (hw2.block i hi)⟩
    have hb4 := bset (bset (bset (bset (bset hw3 (show w.heap.size ≤ w.heap.size + 1 + 1 + 1 by omega) (.slice a3 ys.length c3) (p := ⟨w.heap.size + 1 + 1 + 1, 0, none⟩)) (show w.heap.size ≤ w.heap.size + 1 + 1 + 1 by omega) (.int .i64 gen) (p := ⟨w.heap.size + 1 + 1 + 1, 1, none⟩)) (show w.heap.size ≤ w.heap.size + 1 + 1 + 1 by omega) (.int .i64 used') (p := ⟨w.heap.size + 1 + 1 + 1, 2, none⟩)) (show w.heap.size ≤ w.heap.size + 1 + 1 + 1 by omega) (.int .i64 top) (p := ⟨w.heap.size + 1 + 1 + 1, 3, none⟩)) (show w.heap.size ≤ w.heap.size + 1 + 1 + 1 by omega) (.bool down') (p := ⟨w.heap.size + 1 + 1 + 1, 4, none⟩)
    refine ⟨.slice a3 ys.length c3, rfl, hF3.elim (fun h => .inl h.1) (fun h => .inr (h.mono hw2.size)), ?_, hb4⟩
    rcases hF3 with ⟨h1, rfl⟩ | h1
    · injection h1 with e1 _ e3
      subst e1 e3
      exact HS.out.stay hb4
    · have hd : ∀ b, (Value.slice a3 ys.length c3).ownBlock = some b → b ≠ w.heap.size + 1 + 1 + 1 := fun b hb => by have := h1 b hb; omega
      exact ((((hS3.store (p := ⟨w.heap.size + 1 + 1 + 1, 0, none⟩) hd _).store (p := ⟨w.heap.size + 1 + 1 + 1, 1, none⟩) hd _).store (p := ⟨w.heap.size + 1 + 1 + 1, 2, none⟩) hd _).store (p := ⟨w.heap.size + 1 + 1 + 1, 3, none⟩) hd _).store (p := ⟨w.heap.size + 1 + 1 + 1, 4, none⟩) hd _
end Go.Proofs.Ytopaddpclipnjaa
namespace Go.Proofs.Ytopaddpclipnjaa
open Go.RowKit
theorem mayS_ok {s : Sto} {l : List ByteArray} {fs : List Flt} (h : mayS s l fs = 0) : s.okB = true ∧ fs.all fltB = true ∧ (l.all fun p => decide (p.size ≤ 96)) = true ∧ s.down = false := by
  unfold mayS at h
  split at h
  · omega
  · rename_i h1
    split at h
    · omega
    · rename_i h2
      split at h
      · omega
      · rename_i h3
        simp only [Bool.or_eq_true, not_or, Bool.not_eq_true', Bool.not_eq_true, Bool.not_eq_false, List.any_eq_false] at h1 h2 h3
        refine ⟨h1.1, ?_, ?_, h3⟩
        · rw [List.all_eq_true]
          intro x hx
          have := h1.2 x hx
          simpa using this
        · rw [List.all_eq_true]
          intro x hx
          have := h2 x hx
          simp at this ⊢
          exact this
theorem okB_nums {s : Sto} (h : s.okB = true) : logB s.xs = true ∧ 1 ≤ s.gen ∧ s.gen ≤ 250 ∧ 0 ≤ s.used ∧ s.used ≤ areaD s.xs ∧ s.gen ≤ s.top ∧ s.top ≤ 250 ∧ 10 ≤ s.xs.length ∧ s.xs.length ≤ 130 := by
  unfold Sto.okB inB at h
  simp only [Bool.and_eq_true, decide_eq_true_eq] at h
  have h0 := h.1
  unfold logB at h0
  simp only [Bool.and_eq_true] at h0
  have := rightD_sizes h0.1
  exact ⟨h.1, h.2.1.1, h.2.1.2, h.2.2.1.1, h.2.2.1.2, h.2.2.2.1, h.2.2.2.2, this.1, this.2.1⟩
theorem slat_far {W : World} {v : Value} {sz n : Nat} {cs : List Value} (h : SlAt W v sz n cs) (hn : 0 < n) {b : Nat} (hb : v.ownBlock = some b) : b < W.heap.size := by
  obtain ⟨a, c, rfl, _, _⟩ := h.form
  obtain ⟨b', o, rfl, hlt, _⟩ := h.at hn
  injection hb with hb
  subst hb
  exact hlt
theorem append_any (s : Sto) (v : Value) (p : ByteArray) (f : Flt) (w : World) (hS : SlAt w v 1 s.xs.length (strs s.xs)) :
    Calls Try.prog 21 #[s.val v, .string p, fltV f] w (StoRes (appendS s p f).1 (appendS s p f).2 v w) := by
  unfold appendS
  by_cases hm : mayS s [p] [f] = 0
  · rw [if_pos hm]
    by_cases hu : s.used = areaD s.xs
    · rw [if_pos hu]
      exact append_full s v p f w hS hm hu
    · rw [if_neg hu]
      obtain ⟨hok, _, _, hdn⟩ := mayS_ok hm
      obtain ⟨_, g1, g2, u1, u2, _, _, l1, l2⟩ := okB_nums hok
      have hbl : ∀ b, v.ownBlock = some b → b ≠ w.heap.size := fun b hb => Nat.ne_of_lt (slat_far hS (by omega) hb)
      have ha : areaD s.xs ≤ 900 := by unfold areaD; omega
      obtain ⟨xs, gen, used, top, down⟩ := s
      obtain ⟨fk, fK⟩ := f
      simp only at *
      unfold appS
      by_cases h1 : fk = 1
      · subst h1
        simp only [if_true]
        refine append_go xs xs gen used top used 8 down down v p 1 fK w hS hm hu (fun W hW hB hP hF hs => ?_)
        refine (astop_fail w.heap.size (w.heap.size + 1) (w.heap.size + 1 + 1) v xs gen used top down p fK W hB hP hF hs hbl (by omega) (by omega) (by omega) u1 (by omega)).mono ?_
        rintro e w' ⟨rfl, hb⟩
        exact ⟨v, rfl, blk_call hb hB, hs.stay hb, .inl ⟨rfl, rfl⟩, gr_bel hb⟩
      · by_cases h2 : fk = 2
        · subst h2
          simp only [show ¬ (2 : Int) = 1 by decide, if_false, if_true]
          refine append_go xs _ gen used top used 9 down true v p 2 fK w hS hm hu (fun W hW hB hP hF hs => ?_)
          refine (astop_crash w.heap.size (w.heap.size + 1) (w.heap.size + 1 + 1) v xs gen used top down p fK W hB hP hF hs hbl (by omega) (by omega) (by omega) u1 (by omega)).mono ?_
          rintro e w' ⟨v', rfl, k1, k2, k3, k4⟩
          exact ⟨v', rfl, k1, k2, .inr k3, k4⟩
        · simp only [h1, h2, if_false]
          refine append_go xs _ gen used top (used + 1) 0 down down v p fk fK w hS hm hu (fun W hW hB hP hF hs => ?_)
          refine (astop_ok w.heap.size (w.heap.size + 1) (w.heap.size + 1 + 1) v xs gen used top down p fk fK W hB hP hF hs hbl (by omega) (by omega) (by omega) u1 (by omega) h1 h2).mono ?_
          rintro e w' ⟨v', rfl, k1, k2, k3, k4⟩
          exact ⟨v', rfl, k1, k2, .inr k3, k4⟩
  · rw [if_neg hm]
    exact append_bad s v p f _ w hS rfl hm
end Go.Proofs.Ytopaddpclipnjaa
namespace Go.Proofs.Ytopaddpclipnjaa
open Go.RowKit Go.Proofs.YtopaddpclipnjaaW.PrintLast
structure G2 (g1 g2 : Nat) (w w' : World) : Prop where
  os : w'.os = w.os
  tape : w'.tape = w.tape
  output : w'.output = w.output
  size : w.heap.size ≤ w'.heap.size
  block : ∀ i, i < w.heap.size → i ≠ g1 → i ≠ g2 → w'.heap[i]? = w.heap[i]?
theorem G2.refl (g1 g2 : Nat) (w : World) : G2 g1 g2 w w := ⟨rfl, rfl, rfl, Nat.le_refl _, fun _ _ _ _ => rfl⟩
theorem G2.trans {g1 g2 : Nat} {w w1 w2 : World} (h : G2 g1 g2 w w1) (k : G2 g1 g2 w1 w2) : G2 g1 g2 w w2 :=
  ⟨k.os.trans h.os, k.tape.trans h.tape, k.output.trans h.output, Nat.le_trans h.size k.size, fun i hi a b => (k.block i (Nat.lt_of_lt_of_le hi h.size) a b).trans (h.block i hi a b)⟩
theorem G2.left {g1 g2 : Nat} {w w' : World} (h : w.grownBy w' (some g1)) : G2 g1 g2 w w' := ⟨h.os, h.tape, h.output, h.size, fun i hi a _ => h.block i hi (fun e => a (Option.some.inj e))⟩
theorem G2.right {g1 g2 : Nat} {w w' : World} (h : w.grownBy w' (some g2)) : G2 g1 g2 w w' := ⟨h.os, h.tape, h.output, h.size, fun i hi _ b => h.block i hi (fun e => b (Option.some.inj e))⟩
theorem G2.below {g1 g2 : Nat} {w w' : World} (h : Below w.heap.size w w') : G2 g1 g2 w w' := ⟨h.os, h.tape, h.output, h.size, fun i hi _ _ => h.block i hi⟩
theorem SlAt.grown {W W' : World} {v : Value} {sz n : Nat} {cells : List Value} {g1 g2 : Nat} (h : SlAt W v sz n cells) (hg : G2 g1 g2 W W') (h1 : 0 < n → ∀ b, v.ownBlock = some b → b ≠ g1) (h2 : 0 < n → ∀ b, v.ownBlock = some b → b ≠ g2) : SlAt W' v sz n cells := by
  obtain ⟨hl, a, c, hv, k1, k2, h3⟩ := h
  refine ⟨hl, a, c, hv, k1, k2, ?_⟩
  rcases Nat.eq_zero_or_pos n with hz | hz
  · exact .inl hz
  rcases h3 with h3 | ⟨b, o, ha, hlt, hc⟩
  · exact .inl h3
  · have hb : v.ownBlock = some b := by rw [hv, ha]; rfl
    refine .inr ⟨b, o, ha, Nat.lt_of_lt_of_le hlt hg.size, fun j u hu => ?_⟩
    rw [World.cell?_of_block (a := ⟨b, o + j, none⟩) (hg.block b hlt (h1 hz b hb) (h2 hz b hb))]
    exact hc j u hu
structure TS (gs gF gl gg gn : Nat) (v vf v1 : Value) (ys l : List ByteArray) (fr : List Flt) (gen used top g : Int) (W : World) : Prop where
  bs : W.heap[gs]? = some (.cells (SC v gen used top false) 26 (0, 0))
  ss : SlAt W v 1 ys.length (strs ys)
  ns : ∀ b, v.ownBlock = some b → b ≠ gs
  ns' : ∀ b, v.ownBlock = some b → b ≠ gF
  bF : W.heap[gF]? = some (.cells #[vf] 47 (0, 0))
  sF : SlAt W vf 2 fr.length (fltsC fr)
  nF : 0 < fr.length → ∀ b, vf.ownBlock = some b → b ≠ gF
  nF' : 0 < fr.length → ∀ b, vf.ownBlock = some b → b ≠ gs
  bl : W.heap[gl]? = some (.cells #[v1] 22 (0, 0))
  sl : SlAt W v1 1 l.length (strs l)
  nl : 0 < l.length → ∀ b, v1.ownBlock = some b → b ≠ gs
  nl' : 0 < l.length → ∀ b, v1.ownBlock = some b → b ≠ gF
  bg : W.heap[gg]? = some (.cells #[.int .i64 g] 3 (0, 0))
  bn : W.heap[gn]? = some (.cells #[.func (.func 51) #[] #[.pointer (some ⟨gF, 0, none⟩)]] 81 (0, 0))
  d1 : gs ≠ gF
  d2 : gl ≠ gs ∧ gl ≠ gF
  d3 : gg ≠ gs ∧ gg ≠ gF
  d4 : gn ≠ gs ∧ gn ≠ gF
section
variable {gs gF gl gg gn : Nat} {v vf v1 : Value} {ys l : List ByteArray} {fr : List Flt} {gen used top g : Int} {W W' : World}
theorem TS.c0 (h : TS gs gF gl gg gn v vf v1 ys l fr gen used top g W) : W.cell? ⟨gs, 0, none⟩ = some v := blk_cell h.bs (j := 0) rfl
theorem TS.below (h : TS gs gF gl gg gn v vf v1 ys l fr gen used top g W) (hb : Below W.heap.size W W') : TS gs gF gl gg gn v vf v1 ys l fr gen used top g W' :=
  ⟨blk_call hb h.bs, h.ss.stay hb, h.ns, h.ns', blk_call hb h.bF, h.sF.stay hb, h.nF, h.nF', blk_call hb h.bl, h.sl.stay hb, h.nl, h.nl', blk_call hb h.bg, blk_call hb h.bn, h.d1, h.d2, h.d3, h.d4⟩
theorem keep2 {g1 i : Nat} {o : Obj} (hg : W.grownBy W' (some g1)) (h : W.heap[i]? = some o) (hi : i ≠ g1) : W'.heap[i]? = some o := (hg.block i (blk_lt h) (fun e => hi (Option.some.inj e))).trans h
theorem TS.next {vf' : Value} (h : TS gs gF gl gg gn v vf v1 ys l fr gen used top g W) (hB : W'.heap[gF]? = some (.cells #[vf'] 47 (0, 0))) (hS : SlAt W' vf' 2 fr.tail.length (fltsC fr.tail)) (hN : ∀ b, vf'.ownBlock = some b → vf.ownBlock = some b) (hg : W.grownBy W' (some gF)) :
    TS gs gF gl gg gn v vf' v1 ys l fr.tail gen used top g W' :=
  ⟨keep2 hg h.bs h.d1, h.ss.grown (G2.right (g1 := gs) hg) (fun _ => h.ns) (fun _ => h.ns'), h.ns, h.ns', hB, hS, fun hz b hb => h.nF (by cases fr <;> simp at hz ⊢) b (hN b hb), fun hz b hb => h.nF' (by cases fr <;> simp at hz ⊢) b (hN b hb), keep2 hg h.bl h.d2.2, h.sl.grown (G2.right (g1 := gs) hg) h.nl h.nl', h.nl, h.nl', keep2 hg h.bg h.d3.2, keep2 hg h.bn h.d4.2, h.d1, h.d2, h.d3, h.d4⟩
end
end Go.Proofs.Ytopaddpclipnjaa
namespace Go.Proofs.YtopaddpclipnjaaQ.P
open Go.RowKit Go.Proofs.YtopaddpclipnjaaW.PrintWords Go.Proofs.Ytopaddpclipnjaa
def stoOut (r : Sto × Int) : Option (List ByteArray × Int × Int × Int × Bool × Int) := some (r.1.xs, r.1.gen, r.1.used, r.1.top, r.1.down, r.2)
theorem sto_res {w : World} {A0_0 : Option Addr} {c0_0 : Nat} {l0_0 : List ByteArray} {P0_0_ : Nat → Prop} {s : Sto} {k : Int} {e : Ending} {w' : World} (hs0_0 : Kd.V Kd.string 9 w w.heap.size (fun k_ => P0_0_ k_) (.slice A0_0 l0_0.length c0_0) l0_0) (hl : (s.val (.slice A0_0 l0_0.length c0_0)) = s.val (.slice A0_0 l0_0.length c0_0)) {r1 : List ByteArray} {r2 r3 r4 : Int} {r5 : Bool} {r6 : Int} (h : stoOut (s, k) = some (r1, r2, r3, r4, r5, r6))
    (hsame : ∀ v', v' = .slice A0_0 l0_0.length c0_0 → SlAt w' v' 1 s.xs.length (strs s.xs) → s.xs = l0_0) (hr : StoRes s k (.slice A0_0 l0_0.length c0_0) w e w') :
    ∃ v0_ : Value, e = .returned (.tuple #[.agg #[v0_, .int .i64 r2, .int .i64 r3, .int .i64 r4, .bool r5], .int .i64 r6]) ∧ Kd.V Kd.string 9 w' w.heap.size (fun k_ => (P0_0_ k_ ∨ w.heap.size ≤ k_)) v0_ r1 ∧ Below w.heap.size w w' := by
  unfold stoOut at h
  simp only [Option.some.injEq, Prod.mk.injEq] at h
  obtain ⟨rfl, rfl, rfl, rfl, rfl, rfl⟩ := h
  obtain ⟨v', rfl, hv, hs, hb⟩ := hr
  refine ⟨v', rfl, ?_, hb⟩
  rcases hv with rfl | hv
  · rw [hsame _ rfl hs]
    exact Kd.V_mono (Kd.V_below hs0_0 hb) (fun _ h => .inl h)
  · exact Kd.V_mono (v_of_fresh hs hv) (fun _ h => .inr h)
theorem slat_v {w : World} {A0_0 : Option Addr} {c0_0 : Nat} {l0_0 : List ByteArray} {P0_0_ : Nat → Prop} (hs0_0 : Kd.V Kd.string 9 w w.heap.size (fun k_ => P0_0_ k_) (.slice A0_0 l0_0.length c0_0) l0_0) : SlAt w (.slice A0_0 l0_0.length c0_0) 1 l0_0.length (strs l0_0) := by
  obtain ⟨_, h2, h3⟩ := Kd.V_reads' hs0_0
  exact strs_c h3 h2
theorem slat_same {W : World} {A : Option Addr} {n c : Nat} {xs ys : List ByteArray} (h : SlAt W (.slice A n c) 1 xs.length (strs xs)) (k : SlAt W (.slice A n c) 1 ys.length (strs ys)) : xs = ys := by
  obtain ⟨_, _, _, e1, _, _⟩ := id h
  obtain ⟨_, _, _, e2, _, _⟩ := id k
  injection e1 with _ e1 _
  injection e2 with _ e2 _
  have hl : xs.length = ys.length := e1.symm.trans e2
  rcases Nat.eq_zero_or_pos xs.length with hz | hz
  · exact (List.eq_nil_of_length_eq_zero hz).trans (List.eq_nil_of_length_eq_zero (hl ▸ hz)).symm
  · subst e1
    obtain ⟨b, o, rfl, _, h1⟩ := h.at hz
    rw [hl] at k
    obtain ⟨b', o', e, _, h2⟩ := k.at (by omega)
    injection e with e
    injection e with e3 e4
    subst e3 e4
    apply List.ext_getElem hl
    intro i hi hi'
    have a1 := h1 i _ (strs_get _ _ hi)
    have a2 := h2 i _ (strs_get _ _ hi')
    rw [a1] at a2
    simpa using a2
def store_Append.f (l0_0 : List ByteArray) (a0_1 : Int) (a0_2 : Int) (a0_3 : Int) (a0_4 : Bool) (a1 : ByteArray) (a2_0 : Int) (a2_1 : Int) : Option (List ByteArray × Int × Int × Int × Bool × Int) := stoOut (appendS ⟨l0_0, a0_1, a0_2, a0_3, a0_4⟩ a1 ⟨a2_0, a2_1⟩)
theorem store_Append.calls (P0_0_ : Nat → Prop) (A0_0 : Option Addr) (c0_0 : Nat) (l0_0 : List ByteArray) (a0_1 : Int) (a0_2 : Int) (a0_3 : Int) (a0_4 : Bool) (a1 : ByteArray) (a2_0 : Int) (a2_1 : Int) (r1 : List ByteArray) (r2 : Int) (r3 : Int) (r4 : Int) (r5 : Bool) (r6 : Int) (w : World) (hs0_0 : Kd.V Kd.string 9 w w.heap.size (fun k_ => P0_0_ k_) (.slice A0_0 l0_0.length c0_0) l0_0) (h : store_Append.f l0_0 a0_1 a0_2 a0_3 a0_4 a1 a2_0 a2_1 = some (r1, r2, r3, r4, r5, r6)) :
    Calls Try.prog 21 #[.agg #[.slice A0_0 l0_0.length c0_0, .int .i64 a0_1, .int .i64 a0_2, .int .i64 a0_3, .bool a0_4], .string a1, .agg #[.int .i64 a2_0, .int .i64 a2_1]] w fun e w' => ∃ v0_ : Value, e = .returned (.tuple #[.agg #[v0_, .int .i64 r2, .int .i64 r3, .int .i64 r4, .bool r5], .int .i64 r6]) ∧ Kd.V Kd.string 9 w' w.heap.size (fun k_ => (P0_0_ k_ ∨ w.heap.size ≤ k_)) v0_ r1 ∧ Below w.heap.size w w' := by
  have hS := slat_v hs0_0
  unfold store_Append.f at h
  refine (append_any ⟨l0_0, a0_1, a0_2, a0_3, a0_4⟩ _ a1 ⟨a2_0, a2_1⟩ w hS).mono fun e w' hr => sto_res hs0_0 rfl h (fun v' hv hs => ?_) hr
  subst hv
  obtain ⟨_, _, _, _, hb⟩ := hr
  exact slat_same hs (hS.stay hb)
end Go.Proofs.YtopaddpclipnjaaQ.P
namespace Go.Proofs.YtopaddpclipnjaaQ.P
open Go.RowKit Go.Proofs.YtopaddpclipnjaaW.PrintWords Go.Proofs.YtopaddpclipnjaaW.PrintLast Go.Proofs.YtopaddpclipnjaaW.PrintMore
attribute [local go_sem] max2_int min2_int max_two min_two max_three min_three max_four min_four
def foghornlaw04_alive.f (k : Nat)  : Option (Bool) := (store_New.f k 10).bind fun bt165 => ((store_Append.f bt165.1 bt165.2.1 bt165.2.2.1 bt165.2.2.2.1 bt165.2.2.2.2.1 (⟨#[97]⟩ : ByteArray) 0 0).bind fun bt174 => ((store_Append.f bt174.1 bt174.2.1 bt174.2.2.1 bt174.2.2.2.1 bt174.2.2.2.2.1 (⟨#[98]⟩ : ByteArray) 2 60).bind fun bt182 => ((store_Boot.f k bt182.1).bind fun bt191 => (if bt165.2.2.2.2.2 = 0 then (if bt174.2.2.2.2.2 = 0 then (if bt182.2.2.2.2.2 = 9 then (if bt191.2.2.2.2.2.2 = 0 then (if (bt191.2.2.2.2.2.1.length : Int) = 1 then (if 0 < (bt191.2.2.2.2.2.1.length : Int) then (some ((rdOf ByteArray.empty bt191.2.2.2.2.2.1 0).toList == ([97] : List UInt8))) else (none)) else (some false)) else (some false)) else (some false)) else (some false)) else (some false)))))
theorem foghornlaw04_alive.mono : ∀ k, LeO (foghornlaw04_alive.f k ) (foghornlaw04_alive.f (k + 1) ) := by
 intro  k
 unfold foghornlaw04_alive.f
 repeat' first
   | (with_reducible exact store_Boot.mono _ _)
   | (with_reducible exact store_New.mono _ _)
   | (with_reducible exact LeO.refl _)
   | (with_reducible exact LeO.none _)
   | (with_reducible refine LeO.ite ?_ ?_)
   | (with_reducible refine LeO.bind ?_ (fun _ => ?_))
   | exact store_Boot.mono _ _
   | exact store_New.mono _ _
   | exact LeO.none _
   | refine LeO.ite ?_ ?_
   | refine LeO.bind ?_ (fun _ => ?_)
set_option maxHeartbeats 8000000 in
set_option maxRecDepth 100000 in
theorem foghornlaw04_alive.callsT (k : Nat)  (r : Bool) (w : World) (h : foghornlaw04_alive.f k  = some r) (hrt_ : r = true) :
  Calls Try.prog 15 #[] w fun e w' => e = .returned (.bool r) ∧ Below w.heap.size w w' := by
 have hu26 := Try.underlying26
 have hu45 := Try.underlying45
 have hu24 := Try.underlying24
 have HB := aA (Below.refl w.heap.size w)
 have H : ((store_New.f k 10).bind fun bt165 => ((store_Append.f bt165.1 bt165.2.1 bt165.2.2.1 bt165.2.2.2.1 bt165.2.2.2.2.1 (⟨#[97]⟩ : ByteArray) 0 0).bind fun bt174 => ((store_Append.f bt174.1 bt174.2.1 bt174.2.2.1 bt174.2.2.2.1 bt174.2.2.2.2.1 (⟨#[98]⟩ : ByteArray) 2 60).bind fun bt182 => ((store_Boot.f k bt182.1).bind fun bt191 => (if bt165.2.2.2.2.2 = 0 then (if bt174.2.2.2.2.2 = 0 then (if bt182.2.2.2.2.2 = 9 then (if bt191.2.2.2.2.2.2 = 0 then (if (bt191.2.2.2.2.2.1.length : Int) = 1 then (if 0 < (bt191.2.2.2.2.2.1.length : Int) then (some ((rdOf ByteArray.empty bt191.2.2.2.2.2.1 0).toList == ([97] : List UInt8))) else (none)) else (some false)) else (some false)) else (some false)) else (some false)) else (some false)))))) = some r := h
 clear h
 replace H := Option.bind_eq_some_iff.mp H
 obtain ⟨⟨t165, t168, t169, t170, t171, t172⟩, A10, H⟩ := H
 have A1 := aA A10
 clear A10
 replace H := Option.bind_eq_some_iff.mp H
 obtain ⟨⟨t174, t177, t178, t179, t180, t181⟩, A20, H⟩ := H
 have A2 := aA A20
 clear A20
 replace H := Option.bind_eq_some_iff.mp H
 obtain ⟨⟨t182, t185, t186, t187, t188, t189⟩, A30, H⟩ := H
 have A3 := aA A30
 clear A30
 replace H := Option.bind_eq_some_iff.mp H
 obtain ⟨⟨t191, t194, t195, t196, t197, t198, t201⟩, A40, H⟩ := H
 have A4 := aA A40
 clear A40
 by_cases c5 : t172 = 0
 ·rw [if_pos c5] at H
  have c5b0 : (t172 == 0) = true := beq_iff_eq.mpr c5
  have c5b1 : (t172 != 0) = false := bne_eq_false_iff_eq.mpr c5
  clear c5
  by_cases c6 : t181 = 0
  ·rw [if_pos c6] at H
   have c6b0 : (t181 == 0) = true := beq_iff_eq.mpr c6
   have c6b1 : (t181 != 0) = false := bne_eq_false_iff_eq.mpr c6
   clear c6
   by_cases c7 : t189 = 9
   ·rw [if_pos c7] at H
    have c7b0 : (t189 == 9) = true := beq_iff_eq.mpr c7
    have c7b1 : (t189 != 9) = false := bne_eq_false_iff_eq.mpr c7
    clear c7
    by_cases c8 : t201 = 0
    ·rw [if_pos c8] at H
     have c8b0 : (t201 == 0) = true := beq_iff_eq.mpr c8
     have c8b1 : (t201 != 0) = false := bne_eq_false_iff_eq.mpr c8
     clear c8
     by_cases c9 : (t198.length : Int) = 1
     ·rw [if_pos c9] at H
      have c9b0 : ((t198.length : Int) == 1) = true := beq_iff_eq.mpr c9
      have c9b1 : ((t198.length : Int) != 1) = false := bne_eq_false_iff_eq.mpr c9
      clear c9
      by_cases c10 : 0 < (t198.length : Int)
      ·rw [if_pos c10] at H
       have c10b0 : decide (0 < (t198.length : Int)) = true := decide_eq_true c10
       have c10b1 : decide (0 < t198.length) = true := decide_eq_true (by omega)
       clear c10
       obtain rfl := Option.some.inj H
       go_enter Try.func15, Try.ntmps15
       go_wp2_with (first | ((with_reducible refine gate_callee (f := 11) rfl ?_); refine goesL_ (some 10) rfl rfl Try.func11 (by kernel_rfl) rfl #[.int .i64 10] rfl mS ?_; (with_reducible refine (store_New.calls k 10 t165 t168 t169 t170 t171 t172 _ A1.out).mono ?_); rintro e w11 ⟨v166, rfl, ho0, hb⟩; refine ⟨_, rfl, ?_⟩; have n0_ := aA (Kd.V_lower (Kd.V_mono (ok' := fun k_ => True) ho0 (fun k_ hk_ => trivial)) (below_size mB)); have n1_ := aA (below_step mB hb); clear HB; have HO167 := n0_; have HB := n1_; clear n0_ n1_; (try clear hb); (try clear hb2); (try clear hk); (try clear hi); (try clear ho0)) | ((with_reducible refine gate_dst (N := 1) rfl ?_); (try (refine gate_guard (by rfl) ?_; dsimp only)); refine box_event ?hg (N := 1) ?hd (cs := #[.slice none 0 0, .int .i64 0, .int .i64 0, .int .i64 0, .bool false]) (t := 26) ?hr ?_; (case hd => rfl); (case hg => rfl); (case hr => first | (go_simp; done) | (go_simp; rfl)); intro gb173 hg w12 hbox hb; have n0_ := aA (Kd.V_below (Kd.V_elderB (by (with_reducible repeat (first | apply Kd.V_alloc | apply Kd.V_drewN | apply Kd.V_drew)); exact HO167.out) gb173 (Nat.le_of_eq hg.symm)) hb); have n1_ := aA (below_step mB hb); have n2_ := aA (hbox); have n3_ := aA ((bZ hg mB)); have n4_ := aA ((bZ hg mB)); clear HO167 HB; have HO167 := n0_; have HB := n1_; have BK173 := n2_; have GW173 := n3_; have GE173 := n4_; clear n0_ n1_ n2_ n3_ n4_ hb hbox hg; obtain ⟨Ao13, co13, eo13⟩ := Kd.V_slice HO167.out; subst eo13; obtain ⟨hcz14_0, hcz14_1, hcz14_2, hcz14_3, hcz14_4⟩ := bC5 BK173.out; obtain ⟨hfz14_0, hfz14_1, hfz14_2, hfz14_3, hfz14_4⟩ := bF5 BK173.out) | ((with_reducible refine gate_store (t := 26) (p := 1) rfl ?_); refine store_event (t := 26) (p := 1) (v := ?vo_w15) (w1 := (((((w12.setCell ⟨gb173, 0, none⟩ (.slice Ao13 t165.length co13)).setCell ⟨gb173, 1, none⟩ (.int .i64 t168)).setCell ⟨gb173, 2, none⟩ (.int .i64 t169)).setCell ⟨gb173, 3, none⟩ (.int .i64 t170)).setCell ⟨gb173, 4, none⟩ (.bool t171))) ?hg ?ho ?hn ?hr ?_; (case ho => rfl); (case hg => rfl); (case hn => rfl); (case hr => first | (go_simp; done) | (go_simp; rfl)); intro w15 hw; have n0_ : Aside0 (Kd.V Kd.string 9 w15 w.heap.size (fun k_ => k_ ≠ gb173) (.slice Ao13 t165.length co13) t165) := ⟨(by rw [hw]; exact (by (with_reducible repeat (first | apply Kd.V_alloc | apply Kd.V_drewN | apply Kd.V_drew)); exact Kd.V_mono (Kd.V_far (p := ⟨gb173, 4, none⟩) (Kd.V_far (p := ⟨gb173, 3, none⟩) (Kd.V_far (p := ⟨gb173, 2, none⟩) (Kd.V_far (p := ⟨gb173, 1, none⟩) (Kd.V_far (p := ⟨gb173, 0, none⟩) (Kd.V_mono HO167.out (fun k_ hk => (⟨hk, hk.2⟩ : _ ∧ k_ ≠ gb173))) (fun _ hk => hk.2) (.slice Ao13 t165.length co13)) (fun _ hk => hk.2) (.int .i64 t168)) (fun _ hk => hk.2) (.int .i64 t169)) (fun _ hk => hk.2) (.int .i64 t170)) (fun _ hk => hk.2) (.bool t171)) (fun _ hk => hk.1.2)))⟩; have n1_ : Aside0 (w15.heap[gb173]? = some (.cells #[.slice Ao13 t165.length co13, .int .i64 t168, .int .i64 t169, .int .i64 t170, .bool t171] 26 (0, 0))) := ⟨(by rw [hw]; exact (by (with_reducible repeat (first | refine blk_drewN ?_ _ | refine blk_drew ?_ | refine blk_alloc ?_ _)); have h_ := BK173.out; exact pK 4 (pK 3 (pK 2 (pK 1 (pK 0 (h_)))))))⟩; have n2_ : Aside0 (Below w.heap.size w w15) := ⟨(by rw [hw]; exact (mD1 GE173.out))⟩; clear hw HO167 BK173 HB; have HO167 := n0_; have BK173 := n1_; have HB := n2_; clear n0_ n1_ n2_; obtain ⟨hcz16_0, hcz16_1, hcz16_2, hcz16_3, hcz16_4⟩ := bC5 BK173.out; obtain ⟨hfz16_0, hfz16_1, hfz16_2, hfz16_3, hfz16_4⟩ := bF5 BK173.out) | ((with_reducible refine gate_callee (f := 21) rfl ?_); refine goesL_ (some 16) rfl rfl Try.func21 (by kernel_rfl) rfl #[.agg #[.slice Ao13 t165.length co13, .int .i64 t168, .int .i64 t169, .int .i64 t170, .bool t171], .string (⟨#[97]⟩ : ByteArray), .agg #[.int .i64 0, .int .i64 0]] rfl mS ?_; (with_reducible refine (store_Append.calls (fun k_ => k_ ≠ gb173) _ _ t165 t168 t169 t170 t171 (⟨#[97]⟩ : ByteArray) 0 0 t174 t177 t178 t179 t180 t181 _ ?side1 A2.out).mono ?_); (case side1 => exact HO167.out); rintro e w17 ⟨v175, rfl, ho0, hb⟩; refine ⟨_, rfl, ?_⟩; have n0_ := aA (Kd.V_below (by (with_reducible repeat (first | apply Kd.V_alloc | apply Kd.V_drewN | apply Kd.V_drew)); exact HO167.out) hb); have n1_ := aA (Kd.V_lower (Kd.V_mono (ok' := fun k_ => k_ ≠ gb173) ho0 (fun k_ hk_ => Or.elim hk_ (fun hs_ => hs_) (fun hn_ => (Kd.freshB (g := gb173) (o := .cells #[.slice Ao13 t165.length co13, .int .i64 t168, .int .i64 t169, .int .i64 t170, .bool t171] 26 (0, 0)) (mK BK173.out) k_ hn_)))) (below_size (mD1 GE173.out))); have n2_ := aA (bB BK173.out hb); have n3_ := aA (below_step (mD1 GE173.out) hb); clear HO167 BK173 HB; have HO167 := n0_; have HO176 := n1_; have BK173 := n2_; have HB := n3_; clear n0_ n1_ n2_ n3_; (try clear hb); (try clear hb2); (try clear hk); (try clear hi); (try clear ho0); obtain ⟨Ao18, co18, eo18⟩ := Kd.V_slice HO176.out; subst eo18; obtain ⟨hcz19_0, hcz19_1, hcz19_2, hcz19_3, hcz19_4⟩ := bC5 BK173.out; obtain ⟨hfz19_0, hfz19_1, hfz19_2, hfz19_3, hfz19_4⟩ := bF5 BK173.out) | ((with_reducible refine gate_store (t := 26) (p := 1) rfl ?_); refine store_event (t := 26) (p := 1) (v := ?vo_w20) (w1 := (((((w17.setCell ⟨gb173, 0, none⟩ (.slice Ao18 t174.length co18)).setCell ⟨gb173, 1, none⟩ (.int .i64 t177)).setCell ⟨gb173, 2, none⟩ (.int .i64 t178)).setCell ⟨gb173, 3, none⟩ (.int .i64 t179)).setCell ⟨gb173, 4, none⟩ (.bool t180))) ?hg ?ho ?hn ?hr ?_; (case ho => rfl); (case hg => rfl); (case hn => rfl); (case hr => first | (go_simp; done) | (go_simp; rfl)); intro w20 hw; have n0_ : Aside0 (Kd.V Kd.string 9 w20 w.heap.size (fun k_ => k_ ≠ gb173) (.slice Ao13 t165.length co13) t165) := ⟨(by rw [hw]; exact (by (with_reducible repeat (first | apply Kd.V_alloc | apply Kd.V_drewN | apply Kd.V_drew)); exact Kd.V_mono (Kd.V_far (p := ⟨gb173, 4, none⟩) (Kd.V_far (p := ⟨gb173, 3, none⟩) (Kd.V_far (p := ⟨gb173, 2, none⟩) (Kd.V_far (p := ⟨gb173, 1, none⟩) (Kd.V_far (p := ⟨gb173, 0, none⟩) (Kd.V_mono HO167.out (fun k_ hk => (⟨hk, hk⟩ : _ ∧ k_ ≠ gb173))) (fun _ hk => hk.2) (.slice Ao18 t174.length co18)) (fun _ hk => hk.2) (.int .i64 t177)) (fun _ hk => hk.2) (.int .i64 t178)) (fun _ hk => hk.2) (.int .i64 t179)) (fun _ hk => hk.2) (.bool t180)) (fun _ hk => hk.1)))⟩; have n1_ : Aside0 (Kd.V Kd.string 9 w20 w.heap.size (fun k_ => k_ ≠ gb173) (.slice Ao18 t174.length co18) t174) := ⟨(by rw [hw]; exact (by (with_reducible repeat (first | apply Kd.V_alloc | apply Kd.V_drewN | apply Kd.V_drew)); exact Kd.V_mono (Kd.V_far (p := ⟨gb173, 4, none⟩) (Kd.V_far (p := ⟨gb173, 3, none⟩) (Kd.V_far (p := ⟨gb173, 2, none⟩) (Kd.V_far (p := ⟨gb173, 1, none⟩) (Kd.V_far (p := ⟨gb173, 0, none⟩) (Kd.V_mono HO176.out (fun k_ hk => (⟨hk, hk⟩ : _ ∧ k_ ≠ gb173))) (fun _ hk => hk.2) (.slice Ao18 t174.length co18)) (fun _ hk => hk.2) (.int .i64 t177)) (fun _ hk => hk.2) (.int .i64 t178)) (fun _ hk => hk.2) (.int .i64 t179)) (fun _ hk => hk.2) (.bool t180)) (fun _ hk => hk.1)))⟩; have n2_ : Aside0 (w20.heap[gb173]? = some (.cells #[.slice Ao18 t174.length co18, .int .i64 t177, .int .i64 t178, .int .i64 t179, .bool t180] 26 (0, 0))) := ⟨(by rw [hw]; exact (by (with_reducible repeat (first | refine blk_drewN ?_ _ | refine blk_drew ?_ | refine blk_alloc ?_ _)); have h_ := BK173.out; exact pK 4 (pK 3 (pK 2 (pK 1 (pK 0 (h_)))))))⟩; have n3_ : Aside0 (Below w.heap.size w w20) := ⟨(by rw [hw]; exact (mD1 GE173.out))⟩; clear hw HO167 HO176 BK173 HB; have HO167 := n0_; have HO176 := n1_; have BK173 := n2_; have HB := n3_; clear n0_ n1_ n2_ n3_; obtain ⟨hcz21_0, hcz21_1, hcz21_2, hcz21_3, hcz21_4⟩ := bC5 BK173.out; obtain ⟨hfz21_0, hfz21_1, hfz21_2, hfz21_3, hfz21_4⟩ := bF5 BK173.out) | ((with_reducible refine gate_callee (f := 21) rfl ?_); refine goesL_ (some 22) rfl rfl Try.func21 (by kernel_rfl) rfl #[.agg #[.slice Ao18 t174.length co18, .int .i64 t177, .int .i64 t178, .int .i64 t179, .bool t180], .string (⟨#[98]⟩ : ByteArray), .agg #[.int .i64 2, .int .i64 60]] rfl mS ?_; (with_reducible refine (store_Append.calls (fun k_ => k_ ≠ gb173) _ _ t174 t177 t178 t179 t180 (⟨#[98]⟩ : ByteArray) 2 60 t182 t185 t186 t187 t188 t189 _ ?side1 A3.out).mono ?_); (case side1 => exact HO176.out); rintro e w22 ⟨v183, rfl, ho0, hb⟩; refine ⟨_, rfl, ?_⟩; have n0_ := aA (Kd.V_below (by (with_reducible repeat (first | apply Kd.V_alloc | apply Kd.V_drewN | apply Kd.V_drew)); exact HO167.out) hb); have n1_ := aA (Kd.V_below (by (with_reducible repeat (first | apply Kd.V_alloc | apply Kd.V_drewN | apply Kd.V_drew)); exact HO176.out) hb); have n2_ := aA (Kd.V_lower (Kd.V_mono (ok' := fun k_ => k_ ≠ gb173) ho0 (fun k_ hk_ => Or.elim hk_ (fun hs_ => hs_) (fun hn_ => (Kd.freshB (g := gb173) (o := .cells #[.slice Ao18 t174.length co18, .int .i64 t177, .int .i64 t178, .int .i64 t179, .bool t180] 26 (0, 0)) (mK BK173.out) k_ hn_)))) (below_size (mD1 GE173.out))); have n3_ := aA (bB BK173.out hb); have n4_ := aA (below_step (mD1 GE173.out) hb); clear HO167 HO176 BK173 HB; have HO167 := n0_; have HO176 := n1_; have HO184 := n2_; have BK173 := n3_; have HB := n4_; clear n0_ n1_ n2_ n3_ n4_; (try clear hb); (try clear hb2); (try clear hk); (try clear hi); (try clear ho0)) | ((with_reducible refine gate_dst (N := 4) rfl ?_); (try (refine gate_guard (by rfl) ?_; dsimp only)); refine box_event ?hg (N := 4) ?hd (cs := #[.slice none 0 0, .int .i64 0, .int .i64 0, .int .i64 0, .bool false]) (t := 26) ?hr ?_; (case hd => rfl); (case hg => rfl); (case hr => first | (go_simp; done) | (go_simp; rfl)); intro gb190 hg w23 hbox hb; have n0_ := aA (Kd.V_below (Kd.V_elderB (by (with_reducible repeat (first | apply Kd.V_alloc | apply Kd.V_drewN | apply Kd.V_drew)); exact HO167.out) gb190 (Nat.le_of_eq hg.symm)) hb); have n1_ := aA (Kd.V_below (Kd.V_elderB (by (with_reducible repeat (first | apply Kd.V_alloc | apply Kd.V_drewN | apply Kd.V_drew)); exact HO176.out) gb190 (Nat.le_of_eq hg.symm)) hb); have n2_ := aA (Kd.V_below (Kd.V_elderB (by (with_reducible repeat (first | apply Kd.V_alloc | apply Kd.V_drewN | apply Kd.V_drew)); exact HO184.out) gb190 (Nat.le_of_eq hg.symm)) hb); have n3_ := aA (bB BK173.out hb); have n4_ := aA (below_step (mD1 GE173.out) hb); have n5_ := aA (hbox); have n6_ := aA ((bZ hg (mD1 GE173.out))); have n7_ := aA ((bZ hg (mD1 GE173.out))); have n8_ := aA ((bL hg BK173.out)); have n9_ := aA ((bG hg BK173.out)); clear HO167 HO176 HO184 BK173 HB; have HO167 := n0_; have HO176 := n1_; have HO184 := n2_; have BK173 := n3_; have HB := n4_; have BK190 := n5_; have GW190 := n6_; have GE190 := n7_; have NB173_190 := n8_; have NB190_173 := n9_; clear n0_ n1_ n2_ n3_ n4_ n5_ n6_ n7_ n8_ n9_ hb hbox hg; obtain ⟨Ao24, co24, eo24⟩ := Kd.V_slice HO184.out; subst eo24; have hnb25 := NB190_173.out; have hnc25 := NB173_190.out; obtain ⟨hcz26_0, hcz26_1, hcz26_2, hcz26_3, hcz26_4⟩ := bC5 BK190.out; obtain ⟨hfz26_0, hfz26_1, hfz26_2, hfz26_3, hfz26_4⟩ := bF5 BK190.out) | ((with_reducible refine gate_store (t := 26) (p := 4) rfl ?_); refine store_event (t := 26) (p := 4) (v := ?vo_w27) (w1 := (((((w23.setCell ⟨gb190, 0, none⟩ (.slice Ao24 t182.length co24)).setCell ⟨gb190, 1, none⟩ (.int .i64 t185)).setCell ⟨gb190, 2, none⟩ (.int .i64 t186)).setCell ⟨gb190, 3, none⟩ (.int .i64 t187)).setCell ⟨gb190, 4, none⟩ (.bool t188))) ?hg ?ho ?hn ?hr ?_; (case ho => rfl); (case hg => rfl); (case hn => rfl); (case hr => first | (go_simp; done) | (go_simp; rfl)); intro w27 hw; have n0_ : Aside0 (Kd.V Kd.string 9 w27 w.heap.size (fun k_ => k_ ≠ gb173 ∧ k_ ≠ gb190) (.slice Ao13 t165.length co13) t165) := ⟨(by rw [hw]; exact (by (with_reducible repeat (first | apply Kd.V_alloc | apply Kd.V_drewN | apply Kd.V_drew)); exact Kd.V_mono (Kd.V_far (p := ⟨gb190, 4, none⟩) (Kd.V_far (p := ⟨gb190, 3, none⟩) (Kd.V_far (p := ⟨gb190, 2, none⟩) (Kd.V_far (p := ⟨gb190, 1, none⟩) (Kd.V_far (p := ⟨gb190, 0, none⟩) (Kd.V_mono HO167.out (fun k_ hk => (⟨hk, hk.2⟩ : _ ∧ k_ ≠ gb190))) (fun _ hk => hk.2) (.slice Ao24 t182.length co24)) (fun _ hk => hk.2) (.int .i64 t185)) (fun _ hk => hk.2) (.int .i64 t186)) (fun _ hk => hk.2) (.int .i64 t187)) (fun _ hk => hk.2) (.bool t188)) (fun _ hk => ⟨hk.1.1, hk.1.2⟩)))⟩; have n1_ : Aside0 (Kd.V Kd.string 9 w27 w.heap.size (fun k_ => k_ ≠ gb173 ∧ k_ ≠ gb190) (.slice Ao18 t174.length co18) t174) := ⟨(by rw [hw]; exact (by (with_reducible repeat (first | apply Kd.V_alloc | apply Kd.V_drewN | apply Kd.V_drew)); exact Kd.V_mono (Kd.V_far (p := ⟨gb190, 4, none⟩) (Kd.V_far (p := ⟨gb190, 3, none⟩) (Kd.V_far (p := ⟨gb190, 2, none⟩) (Kd.V_far (p := ⟨gb190, 1, none⟩) (Kd.V_far (p := ⟨gb190, 0, none⟩) (Kd.V_mono HO176.out (fun k_ hk => (⟨hk, hk.2⟩ : _ ∧ k_ ≠ gb190))) (fun _ hk => hk.2) (.slice Ao24 t182.length co24)) (fun _ hk => hk.2) (.int .i64 t185)) (fun _ hk => hk.2) (.int .i64 t186)) (fun _ hk => hk.2) (.int .i64 t187)) (fun _ hk => hk.2) (.bool t188)) (fun _ hk => ⟨hk.1.1, hk.1.2⟩)))⟩; have n2_ : Aside0 (Kd.V Kd.string 9 w27 w.heap.size (fun k_ => k_ ≠ gb173 ∧ k_ ≠ gb190) (.slice Ao24 t182.length co24) t182) := ⟨(by rw [hw]; exact (by (with_reducible repeat (first | apply Kd.V_alloc | apply Kd.V_drewN | apply Kd.V_drew)); exact Kd.V_mono (Kd.V_far (p := ⟨gb190, 4, none⟩) (Kd.V_far (p := ⟨gb190, 3, none⟩) (Kd.V_far (p := ⟨gb190, 2, none⟩) (Kd.V_far (p := ⟨gb190, 1, none⟩) (Kd.V_far (p := ⟨gb190, 0, none⟩) (Kd.V_mono HO184.out (fun k_ hk => (⟨hk, hk.2⟩ : _ ∧ k_ ≠ gb190))) (fun _ hk => hk.2) (.slice Ao24 t182.length co24)) (fun _ hk => hk.2) (.int .i64 t185)) (fun _ hk => hk.2) (.int .i64 t186)) (fun _ hk => hk.2) (.int .i64 t187)) (fun _ hk => hk.2) (.bool t188)) (fun _ hk => ⟨hk.1.1, hk.1.2⟩)))⟩; have n3_ : Aside0 (w27.heap[gb173]? = some (.cells #[.slice Ao18 t174.length co18, .int .i64 t177, .int .i64 t178, .int .i64 t179, .bool t180] 26 (0, 0))) := ⟨(by rw [hw]; exact (by (with_reducible repeat (first | refine blk_drewN ?_ _ | refine blk_drew ?_ | refine blk_alloc ?_ _)); refine blk_far ?_ NB173_190.out _; (with_reducible repeat (first | refine blk_drewN ?_ _ | refine blk_drew ?_ | refine blk_alloc ?_ _)); refine blk_far ?_ NB173_190.out _; (with_reducible repeat (first | refine blk_drewN ?_ _ | refine blk_drew ?_ | refine blk_alloc ?_ _)); refine blk_far ?_ NB173_190.out _; (with_reducible repeat (first | refine blk_drewN ?_ _ | refine blk_drew ?_ | refine blk_alloc ?_ _)); refine blk_far ?_ NB173_190.out _; (with_reducible repeat (first | refine blk_drewN ?_ _ | refine blk_drew ?_ | refine blk_alloc ?_ _)); refine blk_far ?_ NB173_190.out _; (with_reducible repeat (first | refine blk_drewN ?_ _ | refine blk_drew ?_ | refine blk_alloc ?_ _)); exact BK173.out))⟩; have n4_ : Aside0 (w27.heap[gb190]? = some (.cells #[.slice Ao24 t182.length co24, .int .i64 t185, .int .i64 t186, .int .i64 t187, .bool t188] 26 (0, 0))) := ⟨(by rw [hw]; exact (by (with_reducible repeat (first | refine blk_drewN ?_ _ | refine blk_drew ?_ | refine blk_alloc ?_ _)); have h_ := BK190.out; exact pK 4 (pK 3 (pK 2 (pK 1 (pK 0 (h_)))))))⟩; have n5_ : Aside0 (Below w.heap.size w w27) := ⟨(by rw [hw]; exact (mD2 GE173.out GE190.out))⟩; clear hw HO167 HO176 HO184 BK173 BK190 HB; have HO167 := n0_; have HO176 := n1_; have HO184 := n2_; have BK173 := n3_; have BK190 := n4_; have HB := n5_; clear n0_ n1_ n2_ n3_ n4_ n5_; obtain ⟨hcz28_0, hcz28_1, hcz28_2, hcz28_3, hcz28_4⟩ := bC5 BK190.out; obtain ⟨hfz28_0, hfz28_1, hfz28_2, hfz28_3, hfz28_4⟩ := bF5 BK190.out) | ((with_reducible refine gate_callee (f := 12) rfl ?_); refine goesL_ (some 28) rfl rfl Try.func12 (by kernel_rfl) rfl #[.agg #[.slice Ao24 t182.length co24]] rfl mS ?_; (with_reducible refine (store_Boot.calls k (fun k_ => (k_ ≠ gb173 ∧ k_ ≠ gb190)) _ _ t182 t191 t194 t195 t196 t197 t198 t201 _ ?side1 A4.out).mono ?_); (case side1 => exact HO184.out); rintro e w29 ⟨v192, v199, rfl, ho0, ho1, hb⟩; refine ⟨_, rfl, ?_⟩; have n0_ := aA (Kd.V_elder' (by (with_reducible repeat (first | apply Kd.V_alloc | apply Kd.V_drewN | apply Kd.V_drew)); exact HO167.out) (Kd.R_base ho1) hb); have n1_ := aA (Kd.V_elder' (by (with_reducible repeat (first | apply Kd.V_alloc | apply Kd.V_drewN | apply Kd.V_drew)); exact HO176.out) (Kd.R_base ho1) hb); have n2_ := aA (Kd.V_elder' (by (with_reducible repeat (first | apply Kd.V_alloc | apply Kd.V_drewN | apply Kd.V_drew)); exact HO184.out) (Kd.R_base ho1) hb); have n3_ := aA (Kd.V_lower (Kd.V_mono (ok' := fun k_ => some k_ ≠ (v199 : Value).ownBlock ∧ k_ ≠ gb173 ∧ k_ ≠ gb190) ho0 (fun k_ hk_ => ⟨hk_.2, Or.elim hk_.1 (fun hs_ => hs_.1) (fun hn_ => (Kd.freshB (g := gb173) (o := .cells #[.slice Ao18 t174.length co18, .int .i64 t177, .int .i64 t178, .int .i64 t179, .bool t180] 26 (0, 0)) (mK BK173.out) k_ hn_)), Or.elim hk_.1 (fun hs_ => hs_.2) (fun hn_ => (Kd.freshB (g := gb190) (o := .cells #[.slice Ao24 t182.length co24, .int .i64 t185, .int .i64 t186, .int .i64 t187, .bool t188] 26 (0, 0)) (mK BK190.out) k_ hn_))⟩)) (below_size (mD2 GE173.out GE190.out))); have n4_ := aA (Kd.R_lower (Kd.R_mono (ok' := fun k_ => True) ho1 (fun _ hk_ => trivial)) (below_size (mD2 GE173.out GE190.out))); have n5_ := aA (bB BK173.out hb); have n6_ := aA (bB BK190.out hb); have n7_ := aA (below_step (mD2 GE173.out GE190.out) hb); clear HO167 HO176 HO184 BK173 BK190 HB; have HO167 := n0_; have HO176 := n1_; have HO184 := n2_; have HO193 := n3_; have HO200 := n4_; have BK173 := n5_; have BK190 := n6_; have HB := n7_; clear n0_ n1_ n2_ n3_ n4_ n5_ n6_ n7_; (try clear hb); (try clear hb2); (try clear hk); (try clear hi); (try clear ho0); (try clear ho1)) | ((with_reducible refine gate_dst (N := 6) rfl ?_); (try (refine gate_guard (by rfl) ?_; dsimp only)); refine box_event ?hg (N := 6) ?hd (cs := #[.slice none 0 0, .int .i64 0, .int .i64 0, .int .i64 0, .bool false]) (t := 26) ?hr ?_; (case hd => rfl); (case hg => rfl); (case hr => first | (go_simp; done) | (go_simp; rfl)); intro gb202 hg w30 hbox hb; have n0_ := aA (Kd.V_below (Kd.V_elderB (by (with_reducible repeat (first | apply Kd.V_alloc | apply Kd.V_drewN | apply Kd.V_drew)); exact HO167.out) gb202 (Nat.le_of_eq hg.symm)) hb); have n1_ := aA (Kd.V_below (Kd.V_elderB (by (with_reducible repeat (first | apply Kd.V_alloc | apply Kd.V_drewN | apply Kd.V_drew)); exact HO176.out) gb202 (Nat.le_of_eq hg.symm)) hb); have n2_ := aA (Kd.V_below (Kd.V_elderB (by (with_reducible repeat (first | apply Kd.V_alloc | apply Kd.V_drewN | apply Kd.V_drew)); exact HO184.out) gb202 (Nat.le_of_eq hg.symm)) hb); have n3_ := aA (Kd.V_below (Kd.V_elderB (by (with_reducible repeat (first | apply Kd.V_alloc | apply Kd.V_drewN | apply Kd.V_drew)); exact HO193.out) gb202 (Nat.le_of_eq hg.symm)) hb); have n4_ := aA (Kd.R_below (mR HO200.out) hb); have n5_ := aA (bB BK173.out hb); have n6_ := aA (bB BK190.out hb); have n7_ := aA (below_step (mD2 GE173.out GE190.out) hb); have n8_ := aA (hbox); have n9_ := aA ((bZ hg (mD2 GE173.out GE190.out))); have n10_ := aA ((bZ hg (mD2 GE173.out GE190.out))); have n11_ := aA ((bL hg BK173.out)); have n12_ := aA ((bG hg BK173.out)); have n13_ := aA ((bL hg BK190.out)); have n14_ := aA ((bG hg BK190.out)); clear HO167 HO176 HO184 HO193 HO200 BK173 BK190 HB; have HO167 := n0_; have HO176 := n1_; have HO184 := n2_; have HO193 := n3_; have HO200 := n4_; have BK173 := n5_; have BK190 := n6_; have HB := n7_; have BK202 := n8_; have GW202 := n9_; have GE202 := n10_; have NB173_202 := n11_; have NB202_173 := n12_; have NB190_202 := n13_; have NB202_190 := n14_; clear n0_ n1_ n2_ n3_ n4_ n5_ n6_ n7_ n8_ n9_ n10_ n11_ n12_ n13_ n14_ hb hbox hg; obtain ⟨Ao31, co31, eo31⟩ := Kd.V_slice HO193.out; subst eo31; have hnb32 := NB202_173.out; have hnc32 := NB173_202.out; have hnb33 := NB202_190.out; have hnc33 := NB190_202.out; obtain ⟨hcz34_0, hcz34_1, hcz34_2, hcz34_3, hcz34_4⟩ := bC5 BK202.out; obtain ⟨hfz34_0, hfz34_1, hfz34_2, hfz34_3, hfz34_4⟩ := bF5 BK202.out; obtain ⟨Ao35, co35, eo35⟩ := Kd.R_slice HO200.out; subst eo35; have p203 : 0 ≤ (0 : Int) := (by omega); have q203 : 0 < (t198.length : Int) := of_decide_eq_true (by first | (with_reducible assumption) | assumption); obtain ⟨ad203, e203, hx203_0⟩ := Kd.at_string (Kd.R_reads' HO200.out).2.2 0 p203 q203; cases e203; have qi203 : (0 < t198.length) = True := eq_true (by omega); (try rw [show ((0 : Int)).toNat = 0 from rfl] at hx203_0); (try rw [Addr.add_zero'] at hx203_0); have hn203_0 : ad203.block ≠ gb202 := Kd.own_blk (Kd.R_ne HO200.out BK202.out (by decide)); have hn203_1 : ad203.block ≠ gb202 := Kd.own_blk (Kd.R_ne HO200.out BK202.out (by decide)); have hn203_2 : ad203.block ≠ gb202 := Kd.own_blk (Kd.R_ne HO200.out BK202.out (by decide)); have hn203_3 : ad203.block ≠ gb202 := Kd.own_blk (Kd.R_ne HO200.out BK202.out (by decide)); have hn203_4 : ad203.block ≠ gb202 := Kd.own_blk (Kd.R_ne HO200.out BK202.out (by decide)); replace hx203_0 := (cell_far (p := ⟨gb202, 0, none⟩) (by first | (rw [add_block]; exact hn203_0) | (show (Addr.add _ _).block ≠ _; rw [add_block]; exact hn203_0) | exact hn203_0) (.slice Ao31 t191.length co31)).trans hx203_0; replace hx203_0 := (cell_far (p := ⟨gb202, 1, none⟩) (by first | (rw [add_block]; exact hn203_1) | (show (Addr.add _ _).block ≠ _; rw [add_block]; exact hn203_1) | exact hn203_1) (.int .i64 t194)).trans hx203_0; replace hx203_0 := (cell_far (p := ⟨gb202, 2, none⟩) (by first | (rw [add_block]; exact hn203_2) | (show (Addr.add _ _).block ≠ _; rw [add_block]; exact hn203_2) | exact hn203_2) (.int .i64 t195)).trans hx203_0; replace hx203_0 := (cell_far (p := ⟨gb202, 3, none⟩) (by first | (rw [add_block]; exact hn203_3) | (show (Addr.add _ _).block ≠ _; rw [add_block]; exact hn203_3) | exact hn203_3) (.int .i64 t196)).trans hx203_0; replace hx203_0 := (cell_far (p := ⟨gb202, 4, none⟩) (by first | (rw [add_block]; exact hn203_4) | (show (Addr.add _ _).block ≠ _; rw [add_block]; exact hn203_4) | exact hn203_4) (.bool t197)).trans hx203_0; clear hn203_0 hn203_1 hn203_2 hn203_3 hn203_4; replace p203 := eq_true p203; replace q203 := eq_true q203))
       go_ret
       exact ⟨by first | rfl | (simp [errW_none, errW_some] <;> rfl) | (simp [*, errW_none, errW_some] <;> rfl), by repeat (first | (with_reducible first | exact HB.out | apply below_alloc | apply pw_below_drewN | apply below_drew1 | refine below_set ?_ GE173.out | refine below_set ?_ GE190.out | refine below_set ?_ GE202.out) | exact HB.out)⟩
      ·rw [if_neg c10] at H
       exact absurd H (by simp)
     ·rw [if_neg c9] at H
      have c9b0 : ((t198.length : Int) == 1) = false := beq_eq_false_iff_ne.mpr c9
      have c9b1 : ((t198.length : Int) != 1) = true := bne_iff_ne.mpr c9
      exact absurd (Option.some.inj H) (by rw [hrt_]; decide)
    ·rw [if_neg c8] at H
     have c8b0 : (t201 == 0) = false := beq_eq_false_iff_ne.mpr c8
     have c8b1 : (t201 != 0) = true := bne_iff_ne.mpr c8
     exact absurd (Option.some.inj H) (by rw [hrt_]; decide)
   ·rw [if_neg c7] at H
    have c7b0 : (t189 == 9) = false := beq_eq_false_iff_ne.mpr c7
    have c7b1 : (t189 != 9) = true := bne_iff_ne.mpr c7
    exact absurd (Option.some.inj H) (by rw [hrt_]; decide)
  ·rw [if_neg c6] at H
   have c6b0 : (t181 == 0) = false := beq_eq_false_iff_ne.mpr c6
   have c6b1 : (t181 != 0) = true := bne_iff_ne.mpr c6
   exact absurd (Option.some.inj H) (by rw [hrt_]; decide)
 ·rw [if_neg c5] at H
  have c5b0 : (t172 == 0) = false := beq_eq_false_iff_ne.mpr c5
  have c5b1 : (t172 != 0) = true := bne_iff_ne.mpr c5
  exact absurd (Option.some.inj H) (by rw [hrt_]; decide)
end Go.Proofs.YtopaddpclipnjaaQ.P
namespace Go.Proofs.Ytopaddpclipnjaa
open Go.RowKit
theorem ext_list (s : ByteArray) (a b : Nat) : (s.extract a b).data.toList = (s.data.toList.drop a).take (b - a) := by
  rw [ByteArray.data_extract, Array.toList_extract]
theorem bytes_ext {a b : ByteArray} (h : a.data.toList = b.data.toList) : a = b := by
  apply ByteArray.ext
  exact Array.toList_inj.1 h
theorem stampB_iff (gen no : Int) : stampB gen no = true ↔ (1 ≤ gen ∧ gen ≤ 250) ∧ 0 ≤ no ∧ no ≤ 64 := by
  unfold stampB
  simp
  omega
theorem u8_small {x : Int} (h0 : 0 ≤ x) (h1 : x < 256) : ((u8 x).toNat : Int) = x := by
  rw [u8_toNat]
  omega
theorem headL_eq (gen no : Int) (p : List UInt8) : headL gen no p = u8 gen :: u8 no :: u8 p.length :: (p ++ zeros (96 - p.length)) := rfl
theorem sealL_tail (gen no : Int) (p : List UInt8) (h : p.length ≤ 96) : (sealL gen no p).drop 126 = stampL gen no := by
  unfold sealL
  rw [show 126 = (headL gen no p).length + 27 by rw [headL_len gen no p h], List.drop_length_add_append, show 27 = (crcFour (crcMore 0 (headL gen no p))).length + 23 by rfl, List.drop_length_add_append, List.drop_left' (zeros_len 23)]
theorem sealL_two (gen no : Int) (p : List UInt8) : (sealL gen no p).take 2 = stampL gen no := rfl
theorem sealL_head (gen no : Int) (p : List UInt8) (h : p.length ≤ 96) : (sealL gen no p).take 99 = headL gen no p := by
  unfold sealL
  rw [List.take_left' (headL_len gen no p h)]
theorem sealL_sum (gen no : Int) (p : List UInt8) (h : p.length ≤ 96) : ((sealL gen no p).drop 99).take 4 = crcFour (crcMore 0 (headL gen no p)) := by
  unfold sealL
  rw [List.drop_left' (headL_len gen no p h), List.take_left' (crcFour_len _)]
theorem beq_toList {a b : ByteArray} (h : a.data.toList = b.data.toList) : (a.toList == b.toList) = true := by
  rw [ByteArray.toList_eq, ByteArray.toList_eq, h]
  simp
theorem opened (gen no : Int) (p : ByteArray) (hst : stampB gen no = true) (hp : p.size ≤ 96) (x : ByteArray) (hx : x = ⟨(sealL gen no (bytesOf p)).toArray⟩) :
    x.size = 128 ∧ openE x = 0 ∧ at8 x 0 = gen ∧ at8 x 1 = no ∧ partP x = p := by
  have hpl : (bytesOf p).length = p.size := len_data p
  have hpl' : (bytesOf p).length ≤ 96 := by omega
  have hr := (stampB_iff gen no).1 hst
  have hxl : x.data.toList = sealL gen no (bytesOf p) := by rw [hx]
  have hsz : x.size = 128 := by rw [← len_data, hxl, sealL_len _ _ _ hpl']
  have ha0 : at8 x 0 = gen := by
    unfold at8
    rw [hxl]
    show ((u8 gen).toNat : Int) = gen
    exact u8_small (by omega) (by omega)
  have ha1 : at8 x 1 = no := by
    unfold at8
    rw [hxl]
    show ((u8 no).toNat : Int) = no
    exact u8_small (by omega) (by omega)
  have ha2 : at8 x 2 = p.size := by
    unfold at8
    rw [hxl]
    show ((u8 (bytesOf p).length).toNat : Int) = p.size
    rw [hpl]
    exact u8_small (by omega) (by omega)
  have hpp : partP x = p := by
    apply bytes_ext
    unfold partP
    rw [ext_list, hxl, ha2]
    have e : (sealL gen no (bytesOf p)).drop 3 = bytesOf p ++ (zeros (96 - (bytesOf p).length) ++ (crcFour (crcMore 0 (headL gen no (bytesOf p))) ++ (zeros 23 ++ stampL gen no))) := by
      unfold sealL
      rw [headL_eq]
      simp
    rw [e, List.take_left' (by rw [hpl]; omega)]
    rfl
  have hA : openA x = true := by
    unfold openA
    apply beq_toList
    rw [ext_list, ext_list, hxl, sealL_tail _ _ _ hpl']
    show (sealL gen no (bytesOf p)).take 2 = List.take 2 (stampL gen no)
    rw [sealL_two]
    rfl
  have hB : openB x = true := by
    unfold openB
    rw [ByteArray.toList_eq, ext_list, hxl, sealL_head _ _ _ hpl', show 103 - 99 = 4 from rfl, sealL_sum _ _ _ hpl']
    simp
  have hE : openE x = 0 := by
    unfold openE
    rw [if_neg (by simp [hsz]), if_neg (by simp [hA]), if_neg (by simp [hB]), if_neg (by omega), ha0, ha1, hpp, if_pos]
    refine ⟨?_, ?_⟩
    · unfold sealE
      rw [hst, if_neg (by simp), if_pos hp]
    · unfold sealS
      rw [if_pos ⟨hst, hp⟩, hx]
  exact ⟨hsz, hE, ha0, ha1, hpp⟩
theorem openE_zero {x : ByteArray} (h : openE x = 0) : x.size = 128 ∧ stampB (at8 x 0) (at8 x 1) = true ∧ (partP x).size ≤ 96 ∧ x = ⟨(sealL (at8 x 0) (at8 x 1) (bytesOf (partP x))).toArray⟩ := by
  unfold openE at h
  split at h
  · omega
  · rename_i h1
    split at h
    · omega
    · split at h
      · omega
      · split at h
        · omega
        · split at h
          · rename_i h5
            obtain ⟨h6, h7⟩ := h5
            have hst : stampB (at8 x 0) (at8 x 1) = true := by
              cases hs : stampB (at8 x 0) (at8 x 1)
              · unfold sealE at h6
                rw [if_pos hs] at h6
                omega
              · rfl
            have hp : (partP x).size ≤ 96 := by
              unfold sealE at h6
              rw [if_neg (by simp [hst])] at h6
              split at h6
              · assumption
              · omega
            refine ⟨by simpa using h1, hst, hp, ?_⟩
            unfold sealS at h7
            rw [if_pos ⟨hst, hp⟩] at h7
            exact h7.symm
          · omega
end Go.Proofs.Ytopaddpclipnjaa
namespace Go.Proofs.Ytopaddpclipnjaa
open Go.RowKit
theorem over_list (x t : ByteArray) (k : Nat) : (over x t k).data.toList = t.data.toList.take k ++ x.data.toList.drop k := rfl
theorem over_same (x t : ByteArray) (k : Nat) (h : x.data.toList.drop k = t.data.toList.drop k) : over x t k = t := by
  apply bytes_ext
  rw [over_list, h, List.take_append_drop]
theorem over_late (x t : ByteArray) (k : Nat) (ht : t.size = 128) (hk : k ≤ 126) : (over x t k).data.toList.drop 126 = x.data.toList.drop 126 := by
  have hl : (t.data.toList.take k).length = k := by rw [List.length_take, len_data]; omega
  rw [over_list, List.drop_append, hl, List.drop_of_length_le (by omega), List.nil_append, List.drop_drop, show k + (126 - k) = 126 by omega]
theorem openE_ends {x : ByteArray} (h : openE x = 0) : x.data.toList.drop 126 = stampL (at8 x 0) (at8 x 1) := by
  obtain ⟨h1, h2, h3, h4⟩ := openE_zero h
  have : x.data.toList = sealL (at8 x 0) (at8 x 1) (bytesOf (partP x)) := congrArg (fun y : ByteArray => y.data.toList) h4
  rw [this]
  exact sealL_tail _ _ _ (by rw [show (bytesOf (partP x)).length = (partP x).size from len_data _]; exact h3)
structure Sealed (x : ByteArray) (g n : Int) : Prop where
  size : x.size = 128
  stamp : stampB g n = true
  opens : openE x = 0
  first : at8 x 0 = g
  second : at8 x 1 = n
theorem sealed_of (gen no : Int) (p : ByteArray) (hst : stampB gen no = true) (hp : p.size ≤ 96) (x : ByteArray) (hx : x = ⟨(sealL gen no (bytesOf p)).toArray⟩) : Sealed x gen no := by
  obtain ⟨h1, h2, h3, h4, _⟩ := opened gen no p hst hp x hx
  exact ⟨h1, hst, h2, h3, h4⟩
theorem Sealed.tail {x : ByteArray} {g n : Int} (h : Sealed x g n) : x.data.toList.drop 126 = stampL g n := by
  have := openE_ends h.opens
  rwa [h.first, h.second] at this
end Go.Proofs.Ytopaddpclipnjaa
namespace Go.Proofs.Ytopaddpclipnjaa
open Go.RowKit
def sec (xs : List ByteArray) (i : Int) : ByteArray := xs.getD i.toNat ByteArray.empty
theorem sec_get {xs : List ByteArray} {i : Nat} (h : i < xs.length) : sec xs i = xs[i] := by
  unfold sec
  rw [List.getD_eq_getElem?_getD, Int.toNat_natCast, List.getElem?_eq_getElem h]
  rfl
theorem sec_set {xs : List ByteArray} {q : Int} {y : ByteArray} (h0 : 0 ≤ q) (h1 : q < xs.length) (i : Int) (hi : 0 ≤ i) : sec (xs.set q.toNat y) i = if i = q then y else sec xs i := by
  unfold sec
  rw [List.getD_eq_getElem?_getD, List.getElem?_set, List.getD_eq_getElem?_getD]
  by_cases h : i = q
  · subst h
    rw [if_pos rfl, if_pos rfl, if_pos (by omega)]
    rfl
  · rw [if_neg (by omega), if_neg h]
theorem logB_nums {xs : List ByteArray} (h : logB xs = true) : 10 ≤ xs.length ∧ xs.length ≤ 130 ∧ (xs.length : Int) % 2 = 0 ∧ (∀ x ∈ xs, x.size = 128) ∧ rightD xs = true ∧ areaD xs = (xs.length : Int) / 2 - 1 ∧ (xs.length : Int) = 2 * areaD xs + 2 ∧ 4 ≤ areaD xs ∧ areaD xs ≤ 64 := by
  unfold logB at h
  simp only [Bool.and_eq_true, decide_eq_true_eq] at h
  have := rightD_sizes h.1
  unfold areaD
  refine ⟨this.1, this.2.1, h.2, this.2.2, h.1, rfl, ?_, ?_, ?_⟩ <;> omega
theorem sec_size {xs : List ByteArray} (h : logB xs = true) {i : Int} (h0 : 0 ≤ i) (h1 : i < xs.length) : (sec xs i).size = 128 := by
  obtain ⟨n, rfl⟩ : ∃ n : Nat, i = n := ⟨i.toNat, by omega⟩
  rw [sec_get (by omega)]
  exact (logB_nums h).2.2.2.1 _ (List.getElem_mem _)
def topStep (m : Int) (x : ByteArray) : Int := if at8 x 0 ≤ 250 then max m (at8 x 0) else m
def topF (m : Int) (xs : List ByteArray) : Int := xs.foldl topStep m
def hdrG (x : ByteArray) (slot : Int) : Int := if openE x = 0 ∧ openG x % 2 = slot ∧ openN x = 0 ∧ openP x = ⟨#[]⟩ then openG x else 0
def newestD (xs : List ByteArray) : Int := max (hdrG (sec xs 0) 0) (hdrG (sec xs 1) 1)
def recB (x : ByteArray) (g no : Int) : Prop := openE x = 0 ∧ openG x = g ∧ openN x = no
instance (x : ByteArray) (g no : Int) : Decidable (recB x g no) := by unfold recB; infer_instance
def foundD (xs : List ByteArray) (g : Int) : Nat → Nat → List ByteArray
  | 0, _ => []
  | d + 1, i => if recB (sec xs (placeD xs g i)) g (i + 1) then openP (sec xs (placeD xs g i)) :: foundD xs g d (i + 1) else []
def foundA (xs : List ByteArray) (g : Int) : List ByteArray := foundD xs g (areaD xs).toNat 0
def bootS (xs : List ByteArray) : Sto × List ByteArray × Int :=
  if logB xs = false then (Sto.zero, [], 1) else if newestD xs = 0 then (Sto.zero, [], 4) else (⟨xs, newestD xs, (foundA xs (newestD xs)).length, topF 0 xs, false⟩, foundA xs (newestD xs), 0)
theorem openG_range (x : ByteArray) : 0 ≤ openG x ∧ openG x < 256 := by
  unfold openG
  have := at8_range x 0
  split <;> omega
theorem openG_pos {x : ByteArray} (h : openE x = 0) : 1 ≤ openG x ∧ openG x ≤ 250 ∧ openG x = at8 x 0 := by
  have h2 := (stampB_iff _ _).1 (openE_zero h).2.1
  unfold openG
  rw [if_pos h]
  omega
theorem hdrG_range (x : ByteArray) (s : Int) : 0 ≤ hdrG x s ∧ hdrG x s ≤ 250 := by
  unfold hdrG
  split
  · rename_i h
    have := openG_pos h.1
    omega
  · omega
theorem hdrG_at {x : ByteArray} {s : Int} (h : hdrG x s ≠ 0) : hdrG x s = at8 x 0 ∧ hdrG x s % 2 = s := by
  unfold hdrG at *
  split at h
  · rename_i h1
    rw [if_pos h1]
    exact ⟨(openG_pos h1.1).2.2, h1.2.1⟩
  · omega
theorem foundD_len (xs : List ByteArray) (g : Int) : ∀ d i, (foundD xs g d i).length ≤ d := by
  intro d
  induction d with
  | zero => intro i; simp [foundD]
  | succ d ih =>
    intro i
    unfold foundD
    split
    · have := ih (i + 1)
      simp
      omega
    · simp
theorem topF_mono (xs : List ByteArray) : ∀ m, m ≤ topF m xs := by
  induction xs with
  | nil => intro m; exact Int.le_refl _
  | cons x xs ih =>
    intro m
    have h1 := ih (topStep m x)
    show m ≤ topF (topStep m x) xs
    have : m ≤ topStep m x := by unfold topStep; split <;> omega
    omega
theorem topF_ge {xs : List ByteArray} {x : ByteArray} (hx : x ∈ xs) (h : at8 x 0 ≤ 250) : ∀ m, at8 x 0 ≤ topF m xs := by
  induction xs with
  | nil => cases hx
  | cons y xs ih =>
    intro m
    show at8 x 0 ≤ topF (topStep m y) xs
    rcases List.mem_cons.1 hx with rfl | hx
    · have h1 := topF_mono xs (topStep m x)
      have : at8 x 0 ≤ topStep m x := by unfold topStep; rw [if_pos h]; omega
      omega
    · exact ih hx _
theorem topF_le (xs : List ByteArray) (b : Int) (hb : ∀ x ∈ xs, at8 x 0 ≤ 250 → at8 x 0 ≤ b) : ∀ m, m ≤ b → topF m xs ≤ b := by
  induction xs with
  | nil => intro m h; exact h
  | cons y xs ih =>
    intro m h
    show topF (topStep m y) xs ≤ b
    refine ih (fun x hx => hb x (List.mem_cons_of_mem _ hx)) _ ?_
    unfold topStep
    split
    · have := hb y List.mem_cons_self (by assumption)
      omega
    · exact h
theorem placeD_in {xs : List ByteArray} (h : logB xs = true) {g i : Int} (h0 : 0 ≤ i) (h1 : i < areaD xs) : 2 ≤ placeD xs g i ∧ placeD xs g i < xs.length := by
  obtain ⟨_, _, _, _, _, _, hl, _, _⟩ := logB_nums h
  unfold placeD
  rcases (by omega : g % 2 = 0 ∨ g % 2 = 1) with e | e <;> rw [e] <;> omega
theorem placeD_inj {xs : List ByteArray} (h : logB xs = true) {g g' i j : Int} (h0 : 0 ≤ i) (h1 : i < areaD xs) (h2 : 0 ≤ j) (h3 : j < areaD xs) (e : placeD xs g i = placeD xs g' j) : g % 2 = g' % 2 ∧ i = j := by
  unfold placeD at e
  rcases (by omega : g % 2 = 0 ∨ g % 2 = 1) with a | a <;> rcases (by omega : g' % 2 = 0 ∨ g' % 2 = 1) with b | b <;> rw [a, b] at e <;> omega
theorem placeD_len {xs ys : List ByteArray} (h : ys.length = xs.length) (g i : Int) : placeD ys g i = placeD xs g i := by unfold placeD areaD; rw [h]
theorem areaD_len {xs ys : List ByteArray} (h : ys.length = xs.length) : areaD ys = areaD xs := by unfold areaD; rw [h]
def sealT (g no : Int) (p : ByteArray) : ByteArray := ⟨(sealL g no (bytesOf p)).toArray⟩
structure SealT (x : ByteArray) (g no : Int) (p : ByteArray) : Prop where
  size : x.size = 128
  opens : openE x = 0
  gen : openG x = g
  num : openN x = no
  pay : openP x = p
  sealed : Sealed x g no
theorem sealT_is {g no : Int} {p : ByteArray} (hg : 1 ≤ g) (hg2 : g ≤ 250) (hn : 0 ≤ no) (hn2 : no ≤ 64) (hp : p.size ≤ 96) : SealT (sealT g no p) g no p ∧ sealS g no p = sealT g no p := by
  have hst : stampB g no = true := (stampB_iff g no).2 ⟨⟨hg, hg2⟩, hn, hn2⟩
  obtain ⟨h1, h2, h3, h4, h5⟩ := opened g no p hst hp (sealT g no p) rfl
  refine ⟨⟨h1, h2, ?_, ?_, ?_, sealed_of g no p hst hp _ rfl⟩, ?_⟩
  · unfold openG; rw [if_pos h2]; exact h3
  · unfold openN; rw [if_pos h2]; exact h4
  · unfold openP; rw [if_pos h2]; exact h5
  · unfold sealS; rw [if_pos ⟨hst, hp⟩]; rfl
def tl (x : ByteArray) : List UInt8 := x.data.toList.drop 126
def tl8 (x : ByteArray) : Int := at8 x 126
theorem tl8_of {x : ByteArray} {g n : Int} (h : tl x = stampL g n) (hg : 0 ≤ g ∧ g < 256) : tl8 x = g := by
  unfold tl at h
  unfold tl8 at8
  have : x.data.toList.getD 126 0 = (x.data.toList.drop 126).getD 0 0 := by
    rw [List.getD_eq_getElem?_getD, List.getD_eq_getElem?_getD, List.getElem?_drop]
  rw [this, h]
  show ((u8 g).toNat : Int) = g
  exact u8_small hg.1 hg.2
theorem tl_open {x : ByteArray} (h : openE x = 0) : tl x = stampL (openG x) (openN x) := by
  unfold openG openN
  rw [if_pos h, if_pos h]
  exact openE_ends h
theorem tl_over (X T : ByteArray) (hT : T.size = 128) (k : Nat) (hk : k ≤ 126) : tl (over X T k) = tl X := over_late X T k hT hk
theorem over_sz {X T : ByteArray} (hX : X.size = 128) (hT : T.size = 128) (k : Nat) (hk : k ≤ 128) : (over X T k).size = 128 := by
  rw [← len_data, over_list, List.length_append, List.length_take, List.length_drop, len_data, len_data, hX, hT]
  omega
theorem at8_over {X T : ByteArray} (hX : X.size = 128) (hT : T.size = 128) {k : Nat} (hk : k ≤ 128) (i : Nat) : at8 (over X T k) i = if i < k then at8 T i else at8 X i := by
  have hl : (T.data.toList.take k).length = k := by rw [List.length_take, len_data]; omega
  unfold at8
  rw [over_list, List.getD_eq_getElem?_getD, List.getElem?_append, hl]
  split
  · rw [List.getElem?_take_of_lt (by assumption), List.getD_eq_getElem?_getD]
  · rw [List.getElem?_drop, show k + (i - k) = i by omega, List.getD_eq_getElem?_getD]
theorem over_tl {X T p : ByteArray} {g no : Int} (hX : X.size = 128) (hT : SealT T g no p) (hg : 0 ≤ g ∧ g < 256) (k : Nat) (hk : k ≤ 128) (hx : tl X ≠ stampL g no) : over X T k = T ∨ tl (over X T k) ≠ stampL g no := by
  rcases Nat.lt_or_ge 126 k with d | d
  · by_cases h : tl (over X T k) = stampL g no
    · left
      apply bytes_ext
      have h6 : (over X T k).data.toList.take 126 = T.data.toList.take 126 := by
        rw [over_list, List.take_append_of_le_length (by rw [List.length_take, len_data, hT.size]; omega), List.take_take, Nat.min_eq_left (by omega)]
      rw [← List.take_append_drop 126 (over X T k).data.toList, ← List.take_append_drop 126 T.data.toList, h6]
      unfold tl at h
      rw [h, hT.sealed.tail]
    · exact .inr h
  · right
    rw [tl_over X T hT.size k d]
    exact hx
theorem not_rec {x : ByteArray} {g no : Int} (h : tl x ≠ stampL g no) : ¬ recB x g no := by
  rintro ⟨h1, h2, h3⟩
  have := tl_open h1
  rw [h2, h3] at this
  exact h this
end Go.Proofs.Ytopaddpclipnjaa
namespace Go.Proofs.Ytopaddpclipnjaa
open Go.RowKit
structure InvD (xs : List ByteArray) (g top : Int) (h : List ByteArray) : Prop where
  log : logB xs = true
  g1 : 1 ≤ g
  gt : g ≤ top
  t2 : top ≤ 250
  len : (h.length : Int) ≤ areaD xs
  head : hdrG (sec xs (g % 2)) (g % 2) = g
  other : hdrG (sec xs (1 - g % 2)) (1 - g % 2) < g
  recs : ∀ (i : Nat) (hi : i < h.length), recB (sec xs (placeD xs g i)) g (i + 1) ∧ openP (sec xs (placeD xs g i)) = h[i]
  next : ∀ i : Nat, h.length ≤ i → (i : Int) < areaD xs → tl (sec xs (placeD xs g i)) ≠ stampL g (i + 1)
  mine : ∀ i : Nat, (i : Int) < areaD xs → at8 (sec xs (placeD xs g i)) 0 ≤ g
  firsts : ∀ i : Int, 0 ≤ i → i < xs.length → at8 (sec xs i) 0 ≤ top
  tails : ∀ i : Int, 0 ≤ i → i < xs.length → tl8 (sec xs i) ≤ at8 (sec xs i) 0
theorem par (g : Int) : g % 2 = 0 ∨ g % 2 = 1 := by omega
theorem InvD.newest {xs : List ByteArray} {g top : Int} {h : List ByteArray} (H : InvD xs g top h) : newestD xs = g := by
  have h1 := H.head
  have h2 := H.other
  unfold newestD
  rcases par g with e | e <;> rw [e] at h1 h2
  · rw [show (1 : Int) - 0 = 1 by omega] at h2
    omega
  · rw [show (1 : Int) - 1 = 0 by omega] at h2
    omega
theorem InvD.found {xs : List ByteArray} {g top : Int} {h : List ByteArray} (H : InvD xs g top h) (d : Nat) : ∀ i : Nat, (i : Int) + d = areaD xs → foundD xs g d i = h.drop i := by
  have hl := H.len
  induction d with
  | zero =>
    intro i hi
    unfold foundD
    rw [List.drop_of_length_le (by omega)]
  | succ d ih =>
    intro i hi
    unfold foundD
    by_cases h1 : i < h.length
    · obtain ⟨r1, r2⟩ := H.recs i h1
      rw [if_pos r1, r2, ih (i + 1) (by omega)]
      exact (List.drop_eq_getElem_cons h1).symm
    · rw [if_neg (not_rec (H.next i (by omega) (by omega))), List.drop_of_length_le (by omega)]
theorem InvD.boot {xs : List ByteArray} {g top : Int} {h : List ByteArray} (H : InvD xs g top h) : bootS xs = (⟨xs, g, h.length, topF 0 xs, false⟩, h, 0) := by
  have ha := (logB_nums H.log).2.2.2.2.2.2.2
  have hf : foundA xs g = h := by
    unfold foundA
    rw [H.found _ 0 (by omega), List.drop_zero]
  unfold bootS
  rw [H.newest, hf, if_neg (by rw [H.log]; simp), if_neg (by have := H.g1; omega)]
structure Wrote (xs : List ByteArray) (q : Int) (Y : ByteArray) (ys : List ByteArray) : Prop where
  log : logB ys = true
  len : ys.length = xs.length
  here : sec ys q = Y
  far : ∀ i : Int, 0 ≤ i → i ≠ q → sec ys i = sec xs i
theorem wrote_set {xs : List ByteArray} (hl : logB xs = true) {q : Int} (h0 : 0 ≤ q) (h1 : q < xs.length) {Y : ByteArray} (hY : Y.size = 128) : Wrote xs q Y (xs.set q.toNat Y) := by
  refine ⟨?_, List.length_set .., ?_, ?_⟩
  · obtain ⟨n1, n2, n3, hsz, _⟩ := logB_nums hl
    unfold logB rightD
    rw [List.length_set]
    have ha : (xs.set q.toNat Y).any badSize = false := by
      rw [List.any_eq_false]
      intro x hx
      have : x.size = 128 := by
        rcases List.mem_or_eq_of_mem_set hx with hx | rfl
        · exact hsz x hx
        · exact hY
      simp [badSize, this]
    rw [ha]
    simp
    omega
  · rw [sec_set h0 h1 q h0, if_pos rfl]
  · intro i hi hne
    rw [sec_set h0 h1 i hi, if_neg hne]
theorem tearL_set {xs : List ByteArray} (hl : logB xs = true) {q : Int} (h0 : 0 ≤ q) (h1 : q < xs.length) {T : ByteArray} (hT : T.size = 128) {k : Int} (k0 : 0 ≤ k) (k1 : k ≤ 128) :
    tearL xs q T k = xs.set q.toNat (over (sec xs q) T k.toNat) := by
  obtain ⟨n1, n2, n3, hsz, hr, _⟩ := logB_nums hl
  have he : tearE xs q T k = 0 := by
    unfold tearE
    rw [mayD_in hr h0 h1, if_neg (by omega), if_neg (by omega), if_neg (by omega)]
  unfold tearL
  rw [if_pos he]
  rfl
theorem tear_wrote {xs : List ByteArray} (hl : logB xs = true) {q : Int} (h0 : 0 ≤ q) (h1 : q < xs.length) {T : ByteArray} (hT : T.size = 128) {k : Int} (k0 : 0 ≤ k) (k1 : k ≤ 128) :
    Wrote xs q (over (sec xs q) T k.toNat) (tearL xs q T k) := by
  rw [tearL_set hl h0 h1 hT k0 k1]
  exact wrote_set hl h0 h1 (over_sz (sec_size hl h0 h1) hT _ (by omega))
theorem tl8_T {T p : ByteArray} {g no : Int} (hT : SealT T g no p) : tl8 T = g ∧ at8 T 0 = g := by
  have hr := (stampB_iff _ _).1 hT.sealed.stamp
  exact ⟨tl8_of hT.sealed.tail (by omega), hT.sealed.first⟩
theorem over_ends {X T p : ByteArray} {g no b : Int} (hX : X.size = 128) (hT : SealT T g no p) {k : Nat} (hk : k ≤ 128) (ht : tl8 X ≤ at8 X 0) (hb : at8 X 0 ≤ g) : at8 (over X T k) 0 ≤ g ∧ tl8 (over X T k) ≤ at8 (over X T k) 0 := by
  obtain ⟨e1, e2⟩ := tl8_T hT
  unfold tl8 at *
  rw [at8_over hX hT.size hk, at8_over hX hT.size hk]
  split <;> split <;> omega
theorem over_all {X T : ByteArray} (hX : X.size = 128) (hT : T.size = 128) : over X T 128 = T := by
  apply over_same
  rw [List.drop_of_length_le (by rw [len_data]; omega), List.drop_of_length_le (by rw [len_data]; omega)]
theorem InvD.wrote_far {xs ys : List ByteArray} {g top : Int} {h : List ByteArray} (H : InvD xs g top h) {q : Int} {Y : ByteArray} (h0 : 0 ≤ q) (h1 : q < xs.length) (W : Wrote xs q Y ys)
    (hf : at8 Y 0 ≤ top) (ht : tl8 Y ≤ at8 Y 0) (hq : q ≠ g % 2) (hq2 : q = 1 - g % 2 → hdrG Y (1 - g % 2) < g)
    (hr : ∀ i : Nat, (i : Int) < areaD xs → q = placeD xs g i → h.length ≤ i ∧ tl Y ≠ stampL g (i + 1) ∧ at8 Y 0 ≤ g) : InvD ys g top h := by
  have hn := logB_nums H.log
  have hA : areaD ys = areaD xs := areaD_len W.len
  have hP : ∀ i : Nat, placeD ys g i = placeD xs g i := fun i => placeD_len W.len g i
  have hfar : ∀ i : Nat, (i : Int) < areaD xs → q ≠ placeD xs g i → sec ys (placeD ys g i) = sec xs (placeD xs g i) := by
    intro i hi hne
    have := placeD_in H.log (g := g) (i := i) (by omega) hi
    rw [hP, W.far _ (by omega) (Ne.symm hne)]
  refine ⟨W.log, H.g1, H.gt, H.t2, by rw [hA]; exact H.len, ?_, ?_, ?_, ?_, ?_, ?_, ?_⟩
  · rw [W.far _ (by omega) (Ne.symm hq)]
    exact H.head
  · by_cases e : q = 1 - g % 2
    · rw [← e, W.here, e]
      exact hq2 e
    · rw [W.far _ (by omega) (Ne.symm e)]
      exact H.other
  · intro i hi
    have hia : (i : Int) < areaD xs := by have := H.len; omega
    rw [hfar i hia (fun e => by have := (hr i hia e).1; omega)]
    exact H.recs i hi
  · intro i hi hia
    rw [hA] at hia
    by_cases e : q = placeD xs g i
    · rw [hP, ← e, W.here]
      exact (hr i hia e).2.1
    · rw [hfar i hia e]
      exact H.next i hi hia
  · intro i hia
    rw [hA] at hia
    by_cases e : q = placeD xs g i
    · rw [hP, ← e, W.here]
      exact (hr i hia e).2.2
    · rw [hfar i hia e]
      exact H.mine i hia
  · intro i hi hi2
    rw [W.len] at hi2
    by_cases e : i = q
    · rw [e, W.here]; exact hf
    · rw [W.far i hi e]; exact H.firsts i hi hi2
  · intro i hi hi2
    rw [W.len] at hi2
    by_cases e : i = q
    · rw [e, W.here]; exact ht
    · rw [W.far i hi e]; exact H.tails i hi hi2
theorem InvD.append {xs ys : List ByteArray} {g top : Int} {h : List ByteArray} (H : InvD xs g top h) (hl : (h.length : Int) < areaD xs) {p : ByteArray} (hp : p.size ≤ 96) {T : ByteArray} (hT : SealT T g (h.length + 1) p) (W : Wrote xs (placeD xs g h.length) T ys) : InvD ys g top (h ++ [p]) := by
  have hn := logB_nums H.log
  have hg := H.g1
  have hgt := H.gt
  have hA : areaD ys = areaD xs := areaD_len W.len
  have hP : ∀ i : Nat, placeD ys g i = placeD xs g i := fun i => placeD_len W.len g i
  have hpl := placeD_in H.log (g := g) (i := h.length) (by omega) hl
  obtain ⟨e1, e2⟩ := tl8_T hT
  have hfar : ∀ i : Nat, (i : Int) < areaD xs → i ≠ h.length → sec ys (placeD ys g i) = sec xs (placeD xs g i) := by
    intro i hi hne
    have := placeD_in H.log (g := g) (i := i) (by omega) hi
    rw [hP, W.far _ (by omega) (fun e => hne (by have := (placeD_inj H.log (by omega) hi (by omega) hl e).2; omega))]
  refine ⟨W.log, hg, hgt, H.t2, by rw [hA]; simp; omega, ?_, ?_, ?_, ?_, ?_, ?_, ?_⟩
  · rw [W.far _ (by omega) (by omega)]
    exact H.head
  · rw [W.far _ (by omega) (by omega)]
    exact H.other
  · intro i hi
    simp only [List.length_append, List.length_singleton] at hi
    by_cases e : i = h.length
    · subst e
      rw [hP, W.here]
      exact ⟨⟨hT.opens, hT.gen, hT.num⟩, by rw [hT.pay]; simp⟩
    · rw [hfar i (by omega) e]
      have := H.recs i (by omega)
      rw [List.getElem_append_left (by omega)]
      exact this
  · intro i hi hia
    simp only [List.length_append, List.length_singleton] at hi
    rw [hA] at hia
    rw [hfar i hia (by omega)]
    exact H.next i (by omega) hia
  · intro i hia
    rw [hA] at hia
    by_cases e : i = h.length
    · subst e
      rw [hP, W.here]
      omega
    · rw [hfar i hia e]
      exact H.mine i hia
  · intro i hi hi2
    rw [W.len] at hi2
    by_cases e : i = placeD xs g h.length
    · rw [e, W.here]; omega
    · rw [W.far i hi e]; exact H.firsts i hi hi2
  · intro i hi hi2
    rw [W.len] at hi2
    by_cases e : i = placeD xs g h.length
    · rw [e, W.here]; omega
    · rw [W.far i hi e]; exact H.tails i hi hi2
theorem InvD.append_any {xs : List ByteArray} {g top : Int} {h : List ByteArray} (H : InvD xs g top h) (hl : (h.length : Int) < areaD xs) {p : ByteArray} (hp : p.size ≤ 96) {k : Int} (k0 : 0 ≤ k) (k1 : k ≤ 128) :
    (InvD (tearL xs (placeD xs g h.length) (sealS g (h.length + 1) p) k) g top h ∧ k ≠ 128) ∨ (InvD (tearL xs (placeD xs g h.length) (sealS g (h.length + 1) p) k) g top (h ++ [p]) ∧ 126 < k) := by
  have hn := logB_nums H.log
  have hg := H.g1
  have hgt := H.gt
  have ht2 := H.t2
  have hpl := placeD_in H.log (g := g) (i := h.length) (by omega) hl
  obtain ⟨hT, hTe⟩ := sealT_is (g := g) (no := (h.length : Int) + 1) (p := p) hg (by omega) (by omega) (by omega) hp
  rw [hTe]
  have W := tear_wrote H.log (q := placeD xs g h.length) (by omega) hpl.2 hT.size k0 k1
  have hX : (sec xs (placeD xs g h.length)).size = 128 := sec_size H.log (by omega) hpl.2
  have hnx := H.next h.length (Nat.le_refl _) hl
  obtain ⟨h1, h2⟩ := over_ends (b := 0) hX hT (k := k.toNat) (by omega) (H.tails _ (by omega) hpl.2) (H.mine _ hl)
  have hcase : over (sec xs (placeD xs g h.length)) (sealT g (h.length + 1) p) k.toNat = sealT g (h.length + 1) p ∧ 126 < k ∨ tl (over (sec xs (placeD xs g h.length)) (sealT g (h.length + 1) p) k.toNat) ≠ stampL g (h.length + 1) ∧ k ≠ 128 := by
    by_cases hk : k = 128
    · subst hk
      exact .inl ⟨over_all hX hT.size, by omega⟩
    · rcases Int.lt_or_le 126 k with d | d
      · rcases over_tl hX hT (by omega) k.toNat (by omega) hnx with e | e
        · exact .inl ⟨e, d⟩
        · exact .inr ⟨e, hk⟩
      · right
        rw [tl_over _ _ hT.size _ (by omega)]
        exact ⟨hnx, hk⟩
  rcases hcase with ⟨e, ek⟩ | ⟨e, ek⟩
  · right
    rw [e] at W
    exact ⟨H.append hl hp hT W, ek⟩
  · left
    refine ⟨H.wrote_far (by omega) hpl.2 W (by omega) h2 (by omega) (fun e => by omega) (fun i hi e2 => ?_), ek⟩
    have := (placeD_inj H.log (by omega) hl (by omega) hi e2).2
    obtain rfl : i = h.length := by omega
    exact ⟨Nat.le_refl _, e, h1⟩
end Go.Proofs.Ytopaddpclipnjaa
namespace Go.Proofs.Ytopaddpclipnjaa
open Go.RowKit
structure NewG (xs : List ByteArray) (g g' : Int) (h : List ByteArray) (l : List ByteArray) (i : Nat) : Prop where
  inv : InvD xs g g' h
  lt : g < g'
  par : g' % 2 = 1 - g % 2
  room : (l.length : Int) ≤ areaD xs
  le : i ≤ l.length
  recs : ∀ (j : Nat) (hj : j < l.length), j < i → recB (sec xs (placeD xs g' j)) g' (j + 1) ∧ openP (sec xs (placeD xs g' j)) = l[j]
  next : ∀ j : Nat, i ≤ j → (j : Int) < areaD xs → tl (sec xs (placeD xs g' j)) ≠ stampL g' (j + 1)
  hdr : tl (sec xs (g' % 2)) ≠ stampL g' 0
theorem tl_gen {x : ByteArray} {g n : Int} (hg : 0 ≤ g ∧ g < 256) (h : tl8 x < g) : tl x ≠ stampL g n := by
  intro e
  have := tl8_of e hg
  omega
theorem place_apart {xs : List ByteArray} (hl : logB xs = true) {g g' : Int} {i j : Nat} (hp : g' % 2 = 1 - g % 2) (hi : (i : Int) < areaD xs) (hj : (j : Int) < areaD xs) : placeD xs g' i ≠ placeD xs g j := by
  intro e
  have := (placeD_inj hl (by omega) hi (by omega) hj e).1
  omega
theorem NewG.old {xs ys : List ByteArray} {g g' : Int} {h l : List ByteArray} {i : Nat} (N : NewG xs g g' h l i) (hi : (i : Int) < areaD xs) {p : ByteArray} {T : ByteArray} (hT : SealT T g' (i + 1) p) {k : Nat} (hk : k ≤ 128) (W : Wrote xs (placeD xs g' i) (over (sec xs (placeD xs g' i)) T k) ys) : InvD ys g g' h := by
  have hn := logB_nums N.inv.log
  have hg := N.inv.g1
  have hpl := placeD_in N.inv.log (g := g') (i := i) (by omega) hi
  have hX : (sec xs (placeD xs g' i)).size = 128 := sec_size N.inv.log (by omega) hpl.2
  obtain ⟨h1, h2⟩ := over_ends (b := 0) hX hT hk (N.inv.tails _ (by omega) hpl.2) (N.inv.firsts _ (by omega) hpl.2)
  exact N.inv.wrote_far (by omega) hpl.2 W h1 h2 (by omega) (fun e => by omega) (fun j hj e => absurd e (place_apart N.inv.log N.par hi hj))
theorem NewG.step {xs ys : List ByteArray} {g g' : Int} {h l : List ByteArray} {i : Nat} (N : NewG xs g g' h l i) (hi : i < l.length) {T : ByteArray} (hT : SealT T g' (i + 1) l[i]) (W : Wrote xs (placeD xs g' i) T ys) : NewG ys g g' h l (i + 1) := by
  have hn := logB_nums N.inv.log
  have hg := N.inv.g1
  have hr := N.room
  have hia : (i : Int) < areaD xs := by omega
  have hpl := placeD_in N.inv.log (g := g') (i := i) (by omega) hia
  have hX : (sec xs (placeD xs g' i)).size = 128 := sec_size N.inv.log (by omega) hpl.2
  have hA : areaD ys = areaD xs := areaD_len W.len
  have hP : ∀ j : Nat, placeD ys g' j = placeD xs g' j := fun j => placeD_len W.len g' j
  have hfar : ∀ j : Nat, (j : Int) < areaD xs → j ≠ i → sec ys (placeD ys g' j) = sec xs (placeD xs g' j) := by
    intro j hj hne
    have := placeD_in N.inv.log (g := g') (i := j) (by omega) hj
    rw [hP, W.far _ (by omega) (fun e => hne (by have := (placeD_inj N.inv.log (by omega) hj (by omega) hia e).2; omega))]
  have hold : InvD ys g g' h := by
    refine N.old hia hT (k := 128) (by omega) ?_
    rw [over_all hX hT.size]
    exact W
  refine ⟨hold, N.lt, N.par, by rw [hA]; exact hr, by omega, ?_, ?_, ?_⟩
  · intro j hj hji
    by_cases e : j = i
    · subst e
      rw [hP, W.here]
      exact ⟨⟨hT.opens, hT.gen, hT.num⟩, hT.pay⟩
    · rw [hfar j (by omega) e]
      exact N.recs j hj (by omega)
  · intro j hj hja
    rw [hA] at hja
    rw [hfar j hja (by omega)]
    exact N.next j (by omega) hja
  · rw [W.far _ (by omega) (by omega)]
    exact N.hdr
theorem NewG.done {xs ys : List ByteArray} {g g' : Int} {h l : List ByteArray} (N : NewG xs g g' h l l.length) {T : ByteArray} (hT : SealT T g' 0 ⟨#[]⟩) (W : Wrote xs (g' % 2) T ys) : InvD ys g' g' l := by
  have hn := logB_nums N.inv.log
  have hg := N.inv.g1
  have hlt := N.lt
  have hpar := N.par
  have hA : areaD ys = areaD xs := areaD_len W.len
  obtain ⟨e1, e2⟩ := tl8_T hT
  have hfar : ∀ j : Nat, (j : Int) < areaD xs → sec ys (placeD ys g' j) = sec xs (placeD xs g' j) := by
    intro j hj
    have := placeD_in N.inv.log (g := g') (i := j) (by omega) hj
    rw [placeD_len W.len, W.far _ (by omega) (by omega)]
  refine ⟨W.log, by omega, by omega, N.inv.t2, by rw [hA]; exact N.room, ?_, ?_, ?_, ?_, ?_, ?_, ?_⟩
  · rw [W.here]
    unfold hdrG
    rw [if_pos ⟨hT.opens, by rw [hT.gen], hT.num, hT.pay⟩]
    exact hT.gen
  · rw [W.far _ (by omega) (by omega), show 1 - g' % 2 = g % 2 by omega, N.inv.head]
    exact hlt
  · intro j hj
    have hr := N.room
    rw [hfar j (by omega)]
    exact N.recs j hj hj
  · intro j hj hja
    rw [hA] at hja
    rw [hfar j hja]
    exact N.next j hj hja
  · intro j hja
    rw [hA] at hja
    rw [hfar j hja]
    have := placeD_in N.inv.log (g := g') (i := j) (by omega) hja
    exact N.inv.firsts _ (by omega) this.2
  · intro i hi hi2
    rw [W.len] at hi2
    by_cases e : i = g' % 2
    · rw [e, W.here]; omega
    · rw [W.far i hi e]; exact N.inv.firsts i hi hi2
  · intro i hi hi2
    rw [W.len] at hi2
    by_cases e : i = g' % 2
    · rw [e, W.here]; omega
    · rw [W.far i hi e]; exact N.inv.tails i hi hi2
theorem zero_at8 (i : Nat) : at8 z128 i = 0 := by
  unfold at8
  rw [show z128.data.toList = List.replicate 128 0 from rfl, List.getD_eq_getElem?_getD, List.getElem?_replicate]
  split <;> rfl
theorem inv_new {n : Int} (h0 : 10 ≤ n) (h1 : n ≤ 130) (h2 : n % 2 = 0) : InvD (tearL (newL n) 1 (sealS 1 0 ⟨#[]⟩) 128) 1 1 [] := by
  have hl : (newL n).length = n.toNat := by unfold newL; rw [if_pos ⟨h0, h1⟩, List.length_replicate]
  have hz : ∀ i : Int, 0 ≤ i → i < n → sec (newL n) i = z128 := by
    intro i a b
    obtain ⟨j, rfl⟩ : ∃ j : Nat, i = j := ⟨i.toNat, by omega⟩
    rw [sec_get (by omega)]
    have : newL n = List.replicate n.toNat z128 := by unfold newL; rw [if_pos ⟨h0, h1⟩]
    simp only [this, List.getElem_replicate]
  have hsz : z128.size = 128 := by
    rw [← len_data]
    exact List.length_replicate
  have hlog : logB (newL n) = true := by
    unfold logB rightD
    have ha : (newL n).any badSize = false := by
      rw [List.any_eq_false]
      intro x hx
      have : x = z128 := by unfold newL at hx; rw [if_pos ⟨h0, h1⟩] at hx; exact List.eq_of_mem_replicate hx
      simp [badSize, this, hsz]
    rw [ha, hl]
    simp
    omega
  have hn := logB_nums hlog
  obtain ⟨hT, hTe⟩ := sealT_is (g := 1) (no := 0) (p := ⟨#[]⟩) (by omega) (by omega) (by omega) (by omega) (by decide)
  rw [hTe]
  have W := tear_wrote hlog (q := 1) (by omega) (by omega) hT.size (k := 128) (by omega) (by omega)
  rw [hz 1 (by omega) (by omega), show (128 : Int).toNat = 128 from rfl, over_all hsz hT.size] at W
  obtain ⟨e1, e2⟩ := tl8_T hT
  have hA := areaD_len W.len
  have hzn : tl8 z128 = 0 := zero_at8 126
  have hfar : ∀ i : Int, 0 ≤ i → i < n → i ≠ 1 → sec (tearL (newL n) 1 (sealT 1 0 ⟨#[]⟩) 128) i = z128 := fun i a b c => by rw [W.far i a c, hz i a b]
  have hpl : ∀ i : Nat, (i : Int) < areaD (newL n) → sec (tearL (newL n) 1 (sealT 1 0 ⟨#[]⟩) 128) (placeD (tearL (newL n) 1 (sealT 1 0 ⟨#[]⟩) 128) 1 i) = z128 := by
    intro i hi
    have := placeD_in hlog (g := 1) (i := i) (by omega) hi
    rw [placeD_len W.len]
    exact hfar _ (by omega) (by omega) (by omega)
  refine ⟨W.log, by omega, by omega, by omega, by rw [hA]; simp; omega, ?_, ?_, ?_, ?_, ?_, ?_, ?_⟩
  · show hdrG (sec _ 1) 1 = 1
    rw [W.here]
    unfold hdrG
    rw [if_pos ⟨hT.opens, by rw [hT.gen]; rfl, hT.num, hT.pay⟩]
    exact hT.gen
  · show hdrG (sec _ 0) 0 < 1
    rw [hfar 0 (by omega) (by omega) (by omega)]
    unfold hdrG
    split
    · rename_i hc
      have h3 := openG_pos hc.1
      rw [zero_at8] at h3
      omega
    · omega
  · intro i hi
    simp at hi
  · intro i _ hi
    rw [hA] at hi
    rw [hpl i hi]
    exact tl_gen (by omega) (by omega)
  · intro i hi
    rw [hA] at hi
    rw [hpl i hi, zero_at8]
    omega
  · intro i hi hi2
    by_cases e : i = 1
    · rw [e, W.here]; omega
    · rw [hfar i hi (by rw [W.len] at hi2; omega) e, zero_at8]; omega
  · intro i hi hi2
    by_cases e : i = 1
    · rw [e, W.here]; omega
    · rw [hfar i hi (by rw [W.len] at hi2; omega) e, zero_at8, hzn]; omega
end Go.Proofs.Ytopaddpclipnjaa
namespace Go.Proofs.Ytopaddpclipnjaa
open Go.RowKit
structure Has (s : Sto) (h : List ByteArray) : Prop where
  inv : InvD s.xs s.gen s.top h
  used : s.used = h.length
  up : s.down = false
theorem Has.ok {s : Sto} {h : List ByteArray} (H : Has s h) : s.okB = true := by
  have i := H.inv
  unfold Sto.okB inB
  rw [i.log, H.used]
  have h1 := i.g1
  have h2 := i.gt
  have h3 := i.t2
  have h4 := i.len
  simp
  omega
theorem mayS_go {s : Sto} (hs : s.okB = true) (hd : s.down = false) {l : List ByteArray} {fs : List Flt} (hl : ∀ p ∈ l, p.size ≤ 96) (hf : fs.all fltB = true) : mayS s l fs = 0 := by
  unfold mayS
  have h1 : (fs.any fun f => !fltB f) = false := by
    rw [List.any_eq_false]
    intro f hm
    have := List.all_eq_true.1 hf f hm
    simp [this]
  have h2 : (l.any fun p => decide (96 < p.size)) = false := by
    rw [List.any_eq_false]
    intro p hm
    have := hl p hm
    simp
    omega
  rw [hs, h1, h2, hd]
  rfl
theorem Has.append {s : Sto} {h : List ByteArray} (H : Has s h) {p : ByteArray} (hp : p.size ≤ 96) {f : Flt} (hf : fltB f = true) :
    (appendS s p f = (Sto.zero, 5) ∧ (h.length : Int) = areaD s.xs) ∨
    ((h.length : Int) < areaD s.xs ∧ appendS s p f = appS s p f ∧
      ((f.kind = 1 ∧ appS s p f = (s, 8)) ∨
       (f.kind = 2 ∧ ∃ ys, appS s p f = ({ s with xs := ys, down := true }, 9) ∧ ((InvD ys s.gen s.top h) ∨ (InvD ys s.gen s.top (h ++ [p]) ∧ 126 < f.k))) ∨
       (f.kind = 0 ∧ ∃ ys, appS s p f = ({ s with xs := ys, used := s.used + 1 }, 0) ∧ InvD ys s.gen s.top (h ++ [p])))) := by
  have hfl : 0 ≤ f.kind ∧ f.kind ≤ 2 ∧ 0 ≤ f.k ∧ f.k ≤ 128 := by
    unfold fltB at hf
    simp only [Bool.and_eq_true, decide_eq_true_eq] at hf
    exact ⟨hf.1.1.1, hf.1.1.2, hf.1.2, hf.2⟩
  have hm : mayS s [p] [f] = 0 := mayS_go H.ok H.up (by simpa using hp) (by simpa using hf)
  have hu := H.used
  have hlen := H.inv.len
  unfold appendS
  rw [if_pos hm]
  by_cases hA : s.used = areaD s.xs
  · left
    rw [if_pos hA]
    exact ⟨rfl, by omega⟩
  · right
    rw [if_neg hA]
    refine ⟨by omega, rfl, ?_⟩
    unfold appS
    by_cases k1 : f.kind = 1
    · rw [if_pos k1]
      exact .inl ⟨k1, rfl⟩
    · rw [if_neg k1]
      by_cases k2 : f.kind = 2
      · rw [if_pos k2, hu]
        right; left
        refine ⟨k2, _, rfl, ?_⟩
        rcases H.inv.append_any (by omega) hp hfl.2.2.1 hfl.2.2.2 with ⟨h1, _⟩ | ⟨h1, h2⟩
        · exact .inl h1
        · exact .inr ⟨h1, h2⟩
      · rw [if_neg k2]
        right; right
        refine ⟨by omega, _, rfl, ?_⟩
        rw [hu]
        rcases H.inv.append_any (by omega) hp (k := 128) (by omega) (by omega) with ⟨_, h1⟩ | ⟨h1, _⟩
        · exact absurd rfl h1
        · exact h1
def new0 (n : Int) : Sto := ⟨tearL (newL n) 1 (sealS 1 0 ⟨#[]⟩) 128, 1, 0, 1, false⟩
theorem has_new {n : Int} (h0 : 10 ≤ n) (h1 : n ≤ 130) (h2 : n % 2 = 0) : Has (new0 n) [] := ⟨inv_new h0 h1 h2, rfl, rfl⟩
theorem InvD.has {xs : List ByteArray} {g top : Int} {h : List ByteArray} (H : InvD xs g top h) {u : Int} (hu : u = h.length) : Has ⟨xs, g, u, top, false⟩ h := ⟨H, hu, rfl⟩
end Go.Proofs.Ytopaddpclipnjaa
namespace Go.Proofs.YtopaddpclipnjaaQ.P
open Go.RowKit Go.Proofs.YtopaddpclipnjaaW.PrintWords Go.Proofs.YtopaddpclipnjaaW.PrintLast Go.Proofs.YtopaddpclipnjaaW.PrintMore
attribute [local go_sem] max2_int min2_int max_two min_two max_three min_three max_four min_four
def foghornref04_Area.f (l0_0 : List ByteArray) : Option (Int) := some (wrap64 ((wrap64 ((l0_0.length : Int) / 2)) - 1))
set_option maxHeartbeats 8000000 in
set_option maxRecDepth 100000 in
theorem foghornref04_Area.calls (A0_0 : Option Addr) (c0_0 : Nat) (l0_0 : List ByteArray) (r : Int) (w : World) (hr0_0 : Kd.C Kd.string w A0_0 l0_0.length l0_0) (hc0_0 : l0_0.length ≤ c0_0) (h : foghornref04_Area.f l0_0 = some r) :
  Calls Try.prog 24 #[.agg #[.slice A0_0 l0_0.length c0_0]] w fun e w' => e = .returned (.int .i64 r) ∧ Below w.heap.size w w' := by
 have hu24 := Try.underlying24
 have HR0_0 := aA hr0_0
 have HC0_0 := aA hc0_0
 clear hr0_0 hc0_0
 have HB := aA (Below.refl w.heap.size w)
 have H : (some (wrap64 ((wrap64 ((l0_0.length : Int) / 2)) - 1))) = some r := h
 clear h
 obtain rfl := Option.some.inj H
 go_enter Try.func24, Try.ntmps24
 go_wp2_with (first | ((with_reducible refine gate_dst (N := 1) rfl ?_); refine box_event ?hg (N := 1) ?hd (cs := #[.slice A0_0 l0_0.length c0_0]) (t := 24) ?hr ?_; (case hd => rfl); (case hg => rfl); (case hr => first | (go_simp; done) | (go_simp; rfl)); intro gb161 hg w2 hbox hb; have n0_ := aA (below_step mB hb); have n1_ := aA (hbox); have n2_ := aA ((bZ hg mB)); have n3_ := aA ((bZ hg mB)); clear HB; have HB := n0_; have BK161 := n1_; have GW161 := n2_; have GE161 := n3_; clear n0_ n1_ n2_ n3_ hb hbox hg; have hcz3_0 : w2.cell? ⟨gb161, 0, none⟩ = some (.slice A0_0 l0_0.length c0_0) := (blk_cell BK161.out 0).trans rfl; have hfz3_0 := blk_frozen BK161.out 0))
 go_ret
 exact ⟨by first | rfl | (simp [errW_none, errW_some] <;> rfl) | (simp [*, errW_none, errW_some] <;> rfl), by repeat (first | (with_reducible first | exact HB.out | apply below_alloc | apply pw_below_drewN | apply below_drew1 | refine below_set ?_ GE161.out) | exact HB.out)⟩
end Go.Proofs.YtopaddpclipnjaaQ.P
namespace Go.Proofs.YtopaddpclipnjaaQ.P
open Go.RowKit Go.Proofs.YtopaddpclipnjaaW.PrintWords Go.Proofs.YtopaddpclipnjaaW.PrintLast Go.Proofs.YtopaddpclipnjaaW.PrintMore
attribute [local go_sem] max2_int min2_int max_two min_two max_three min_three max_four min_four
def foghornref04_newest.l0 : Nat → Int → Int → List ByteArray → Option (Int)
 | 0, _, _, _ => none
 | k + 1, x3, x4, x244000 => if x4 < 2 then (if 0 ≤ x4 then (if x4 < (x244000.length : Int) then ((foghornref03_Open.f (rdOf ByteArray.empty x244000 x4)).bind fun bt245 => (if bt245.2.2.2 = 0 then (if (Int.tmod bt245.1 2) = x4 then (if bt245.2.1 = 0 then (if bt245.2.2.1.toList = ([] : List UInt8) then (if bt245.1 > x3 then (foghornref04_newest.l0 k bt245.1 (wrap64 (x4 + 1)) x244000) else (foghornref04_newest.l0 k x3 (wrap64 (x4 + 1)) x244000)) else (foghornref04_newest.l0 k x3 (wrap64 (x4 + 1)) x244000)) else (foghornref04_newest.l0 k x3 (wrap64 (x4 + 1)) x244000)) else (foghornref04_newest.l0 k x3 (wrap64 (x4 + 1)) x244000)) else (foghornref04_newest.l0 k x3 (wrap64 (x4 + 1)) x244000))) else (none)) else (none)) else (some x3)
def foghornref04_newest.f (k : Nat) (l0_0 : List ByteArray) : Option (Int) := foghornref04_newest.l0 k 0 0 l0_0
theorem foghornref04_newest.mono_l : ∀ k, (∀ y0 y1 y2, LeO (foghornref04_newest.l0 k y0 y1 y2) (foghornref04_newest.l0 (k + 1) y0 y1 y2))
 | 0 => fun _ _ _ r h => by simp [foghornref04_newest.l0] at h
 | k + 1 => by
  have ih0 := foghornref04_newest.mono_l k
  ·intro y0 y1 y2
   unfold foghornref04_newest.l0
   repeat' first
   | (with_reducible exact ih0 _ _ _)
   | (with_reducible exact LeO.refl _)
   | (with_reducible exact LeO.none _)
   | (with_reducible refine LeO.ite ?_ ?_)
   | (with_reducible refine LeO.bind ?_ (fun _ => ?_))
   | exact ih0 _ _ _
   | exact LeO.none _
   | refine LeO.ite ?_ ?_
   | refine LeO.bind ?_ (fun _ => ?_)
theorem foghornref04_newest.mono : ∀ a0 k, LeO (foghornref04_newest.f k a0) (foghornref04_newest.f (k + 1) a0) := by
 intro a0 k
 have ih0 := foghornref04_newest.mono_l k
 unfold foghornref04_newest.f
 repeat' first
   | (with_reducible exact ih0 _ _ _)
   | (with_reducible exact LeO.refl _)
   | (with_reducible exact LeO.none _)
   | (with_reducible refine LeO.ite ?_ ?_)
   | (with_reducible refine LeO.bind ?_ (fun _ => ?_))
   | exact ih0 _ _ _
   | exact LeO.none _
   | refine LeO.ite ?_ ?_
   | refine LeO.bind ?_ (fun _ => ?_)
set_option maxHeartbeats 8000000 in
set_option maxRecDepth 100000 in
theorem foghornref04_newest.calls (k : Nat) (A0_0 : Option Addr) (c0_0 : Nat) (l0_0 : List ByteArray) (r : Int) (w : World) (hr0_0 : Kd.C Kd.string w A0_0 l0_0.length l0_0) (hc0_0 : l0_0.length ≤ c0_0) (h : foghornref04_newest.f k l0_0 = some r) :
  Calls Try.prog 44 #[.agg #[.slice A0_0 l0_0.length c0_0]] w fun e w' => e = .returned (.int .i64 r) ∧ Below w.heap.size w w' := by
 have hu24 := Try.underlying24
 have HR0_0 := aA hr0_0
 have HC0_0 := aA hc0_0
 clear hr0_0 hc0_0
 have HB := aA (Below.refl w.heap.size w)
 have H : (foghornref04_newest.l0 k 0 0 l0_0) = some r := h
 clear h
 have H' := aA H
 clear H
 go_enter Try.func44, Try.ntmps44
 go_wp2_with (first | ((with_reducible refine gate_dst (N := 1) rfl ?_); refine box_event ?hg (N := 1) ?hd (cs := #[.slice A0_0 l0_0.length c0_0]) (t := 24) ?hr ?_; (case hd => rfl); (case hg => rfl); (case hr => first | (go_simp; done) | (go_simp; rfl)); intro gb243 hg w2 hbox hb; have n0_ := aA (below_step mB hb); have n1_ := aA (hbox); have n2_ := aA ((bZ hg mB)); have n3_ := aA ((bZ hg mB)); clear HB; have HB := n0_; have BK243 := n1_; have GW243 := n2_; have GE243 := n3_; clear n0_ n1_ n2_ n3_ hb hbox hg))
 go_loopg [3, 4] k (fun kq v3 v4 w' => ∃ (x3_1 : Int) (x4_1 : Int), v3 = .int .i64 x3_1 ∧ v4 = .int .i64 x4_1 ∧ Aside0 (foghornref04_newest.l0 kq x3_1 x4_1 l0_0 = some r) ∧ Aside0 (kq ≤ k) ∧ Aside0 (w'.heap[gb243]? = some (.cells #[(.slice A0_0 l0_0.length c0_0)] 24 (0, 0))) ∧ Aside0 (Below w.heap.size w w'))
 case atStart => exact ⟨(0), (0), (by first | rfl | (simp; done) | (simp [*]; done)), (by first | rfl | (simp; done) | (simp [*]; done)), H', ⟨Nat.le_refl _⟩, ⟨by (with_reducible repeat (first | refine blk_drewN ?_ _ | refine blk_drew ?_ | refine blk_alloc ?_ _)); exact BK243.out⟩, ⟨by repeat (first | (with_reducible first | exact HB.out | apply below_alloc | apply pw_below_drewN | apply below_drew1 | refine below_set ?_ GE243.out) | exact HB.out)⟩⟩
 case round =>
  clear H'
  try clear p2
  obtain ⟨x3_1, x4_1, rfl, rfl, HA, HK1, BK243, HB⟩ := hrel
  cases gk with
  | zero => exact absurd HA.out (by simp [foghornref04_newest.l0])
  | succ k1 =>
   have H := HA.out
   clear HA
   simp only [foghornref04_newest.l0] at H
   by_cases c3 : x4_1 < 2
   ·rw [if_pos c3] at H
    have c3b0 : decide (x4_1 < 2) = true := decide_eq_true c3
    clear c3
    by_cases c4 : 0 ≤ x4_1
    ·rw [if_pos c4] at H
     have c4b0 : decide (0 ≤ x4_1) = true := decide_eq_true c4
     clear c4
     by_cases c5 : x4_1 < (l0_0.length : Int)
     ·rw [if_pos c5] at H
      have c5b0 : decide (x4_1 < (l0_0.length : Int)) = true := decide_eq_true c5
      clear c5
      replace H := Option.bind_eq_some_iff.mp H
      obtain ⟨⟨t245, t246, t247, t248⟩, A60, H⟩ := H
      have A6 := aA A60
      clear A60
      by_cases c7 : t248 = 0
      ·rw [if_pos c7] at H
       have c7b0 : (t248 == 0) = true := beq_iff_eq.mpr c7
       have c7b1 : (t248 != 0) = false := bne_eq_false_iff_eq.mpr c7
       clear c7
       by_cases c8 : (Int.tmod t245 2) = x4_1
       ·rw [if_pos c8] at H
        have c8b0 : ((Int.tmod t245 2) == x4_1) = true := beq_iff_eq.mpr c8
        have c8b1 : ((Int.tmod t245 2) != x4_1) = false := bne_eq_false_iff_eq.mpr c8
        clear c8
        by_cases c9 : t246 = 0
        ·rw [if_pos c9] at H
         have c9b0 : (t246 == 0) = true := beq_iff_eq.mpr c9
         have c9b1 : (t246 != 0) = false := bne_eq_false_iff_eq.mpr c9
         clear c9
         by_cases c10 : t247.toList = ([] : List UInt8)
         ·rw [if_pos c10] at H
          have c10b0 : (t247.toList == ([] : List UInt8)) = true := beq_iff_eq.mpr c10
          have c10b1 : (t247.toList != ([] : List UInt8)) = false := bne_eq_false_iff_eq.mpr c10
          clear c10
          by_cases c11 : t245 > x3_1
          ·rw [if_pos c11] at H
           have c11b0 : decide (x3_1 < t245) = true := decide_eq_true c11
           clear c11
           have H' := aA H
           clear H
           have hcz12_0 : wr.cell? ⟨gb243, 0, none⟩ = some (.slice A0_0 l0_0.length c0_0) := (blk_cell BK243.out 0).trans rfl
           have hfz12_0 := blk_frozen BK243.out 0
           have p244 : 0 ≤ (x4_1 : Int) := of_decide_eq_true (by first | (with_reducible assumption) | assumption)
           have q244 : x4_1 < (l0_0.length : Int) := of_decide_eq_true (by first | (with_reducible assumption) | assumption)
           obtain ⟨ad244, e244, hx244_0⟩ := Kd.at_string HR0_0.out x4_1 p244 q244
           cases e244
           replace hx244_0 := (HB.out.cell (World.block_lt_of_cell? w _ hx244_0)).trans hx244_0
           replace p244 := eq_true p244
           replace q244 := eq_true q244
           go_wp2_with (first | ((with_reducible refine gate_callee (f := 66) rfl ?_); refine goesL_ (some 19) rfl rfl Try.func66 (by kernel_rfl) rfl #[.string (rdOf ByteArray.empty l0_0 x4_1)] rfl mS ?_; (with_reducible refine (foghornref03_Open.calls (rdOf ByteArray.empty l0_0 x4_1) t245 t246 t247 t248 _ A6.out).mono ?_); rintro e w13 ⟨rfl, hb⟩; refine ⟨_, rfl, ?_⟩; have n0_ := aA (bB BK243.out hb); have n1_ := aA (below_step (mD1 GE243.out) hb); clear BK243 HB; have BK243 := n0_; have HB := n1_; clear n0_ n1_; (try clear hb); (try clear hb2); (try clear hk); (try clear hi)))
           go_roundg k1
           case measure => have := HK1.out; omega
           case rel => exact ⟨(t245), (wrap64 (x4_1 + 1)), (by first | rfl | (simp; done) | (simp [*]; done)), (by first | rfl | (simp; done) | (simp [*]; done)), H', ⟨by have := HK1.out; omega⟩, ⟨by (with_reducible repeat (first | refine blk_drewN ?_ _ | refine blk_drew ?_ | refine blk_alloc ?_ _)); exact BK243.out⟩, ⟨by repeat (first | (with_reducible first | exact HB.out | apply below_alloc | apply pw_below_drewN | apply below_drew1 | refine below_set ?_ GE243.out) | exact HB.out)⟩⟩
          ·rw [if_neg c11] at H
           have c11b0 : decide (x3_1 < t245) = false := decide_eq_false c11
           clear c11
           have H' := aA H
           clear H
           have hcz14_0 : wr.cell? ⟨gb243, 0, none⟩ = some (.slice A0_0 l0_0.length c0_0) := (blk_cell BK243.out 0).trans rfl
           have hfz14_0 := blk_frozen BK243.out 0
           have p244 : 0 ≤ (x4_1 : Int) := of_decide_eq_true (by first | (with_reducible assumption) | assumption)
           have q244 : x4_1 < (l0_0.length : Int) := of_decide_eq_true (by first | (with_reducible assumption) | assumption)
           obtain ⟨ad244, e244, hx244_0⟩ := Kd.at_string HR0_0.out x4_1 p244 q244
           cases e244
           replace hx244_0 := (HB.out.cell (World.block_lt_of_cell? w _ hx244_0)).trans hx244_0
           replace p244 := eq_true p244
           replace q244 := eq_true q244
           go_wp2_with (first | ((with_reducible refine gate_callee (f := 66) rfl ?_); refine goesL_ (some 19) rfl rfl Try.func66 (by kernel_rfl) rfl #[.string (rdOf ByteArray.empty l0_0 x4_1)] rfl mS ?_; (with_reducible refine (foghornref03_Open.calls (rdOf ByteArray.empty l0_0 x4_1) t245 t246 t247 t248 _ A6.out).mono ?_); rintro e w15 ⟨rfl, hb⟩; refine ⟨_, rfl, ?_⟩; have n0_ := aA (bB BK243.out hb); have n1_ := aA (below_step (mD1 GE243.out) hb); clear BK243 HB; have BK243 := n0_; have HB := n1_; clear n0_ n1_; (try clear hb); (try clear hb2); (try clear hk); (try clear hi)))
           go_roundg k1
           case measure => have := HK1.out; omega
           case rel => exact ⟨(x3_1), (wrap64 (x4_1 + 1)), (by first | rfl | (simp; done) | (simp [*]; done)), (by first | rfl | (simp; done) | (simp [*]; done)), H', ⟨by have := HK1.out; omega⟩, ⟨by (with_reducible repeat (first | refine blk_drewN ?_ _ | refine blk_drew ?_ | refine blk_alloc ?_ _)); exact BK243.out⟩, ⟨by repeat (first | (with_reducible first | exact HB.out | apply below_alloc | apply pw_below_drewN | apply below_drew1 | refine below_set ?_ GE243.out) | exact HB.out)⟩⟩
         ·rw [if_neg c10] at H
          have c10b0 : (t247.toList == ([] : List UInt8)) = false := beq_eq_false_iff_ne.mpr c10
          have c10b1 : (t247.toList != ([] : List UInt8)) = true := bne_iff_ne.mpr c10
          have H' := aA H
          clear H
          have hcz16_0 : wr.cell? ⟨gb243, 0, none⟩ = some (.slice A0_0 l0_0.length c0_0) := (blk_cell BK243.out 0).trans rfl
          have hfz16_0 := blk_frozen BK243.out 0
          have p244 : 0 ≤ (x4_1 : Int) := of_decide_eq_true (by first | (with_reducible assumption) | assumption)
          have q244 : x4_1 < (l0_0.length : Int) := of_decide_eq_true (by first | (with_reducible assumption) | assumption)
          obtain ⟨ad244, e244, hx244_0⟩ := Kd.at_string HR0_0.out x4_1 p244 q244
          cases e244
          replace hx244_0 := (HB.out.cell (World.block_lt_of_cell? w _ hx244_0)).trans hx244_0
          replace p244 := eq_true p244
          replace q244 := eq_true q244
          go_wp2_with (first | ((with_reducible refine gate_callee (f := 66) rfl ?_); refine goesL_ (some 19) rfl rfl Try.func66 (by kernel_rfl) rfl #[.string (rdOf ByteArray.empty l0_0 x4_1)] rfl mS ?_; (with_reducible refine (foghornref03_Open.calls (rdOf ByteArray.empty l0_0 x4_1) t245 t246 t247 t248 _ A6.out).mono ?_); rintro e w17 ⟨rfl, hb⟩; refine ⟨_, rfl, ?_⟩; have n0_ := aA (bB BK243.out hb); have n1_ := aA (below_step (mD1 GE243.out) hb); clear BK243 HB; have BK243 := n0_; have HB := n1_; clear n0_ n1_; (try clear hb); (try clear hb2); (try clear hk); (try clear hi)))
          go_roundg k1
          case measure => have := HK1.out; omega
          case rel => exact ⟨(x3_1), (wrap64 (x4_1 + 1)), (by first | rfl | (simp; done) | (simp [*]; done)), (by first | rfl | (simp; done) | (simp [*]; done)), H', ⟨by have := HK1.out; omega⟩, ⟨by (with_reducible repeat (first | refine blk_drewN ?_ _ | refine blk_drew ?_ | refine blk_alloc ?_ _)); exact BK243.out⟩, ⟨by repeat (first | (with_reducible first | exact HB.out | apply below_alloc | apply pw_below_drewN | apply below_drew1 | refine below_set ?_ GE243.out) | exact HB.out)⟩⟩
        ·rw [if_neg c9] at H
         have c9b0 : (t246 == 0) = false := beq_eq_false_iff_ne.mpr c9
         have c9b1 : (t246 != 0) = true := bne_iff_ne.mpr c9
         have H' := aA H
         clear H
         have hcz18_0 : wr.cell? ⟨gb243, 0, none⟩ = some (.slice A0_0 l0_0.length c0_0) := (blk_cell BK243.out 0).trans rfl
         have hfz18_0 := blk_frozen BK243.out 0
         have p244 : 0 ≤ (x4_1 : Int) := of_decide_eq_true (by first | (with_reducible assumption) | assumption)
         have q244 : x4_1 < (l0_0.length : Int) := of_decide_eq_true (by first | (with_reducible assumption) | assumption)
         obtain ⟨ad244, e244, hx244_0⟩ := Kd.at_string HR0_0.out x4_1 p244 q244
         cases e244
         replace hx244_0 := (HB.out.cell (World.block_lt_of_cell? w _ hx244_0)).trans hx244_0
         replace p244 := eq_true p244
         replace q244 := eq_true q244
         go_wp2_with (first | ((with_reducible refine gate_callee (f := 66) rfl ?_); refine goesL_ (some 19) rfl rfl Try.func66 (by kernel_rfl) rfl #[.string (rdOf ByteArray.empty l0_0 x4_1)] rfl mS ?_; (with_reducible refine (foghornref03_Open.calls (rdOf ByteArray.empty l0_0 x4_1) t245 t246 t247 t248 _ A6.out).mono ?_); rintro e w19 ⟨rfl, hb⟩; refine ⟨_, rfl, ?_⟩; have n0_ := aA (bB BK243.out hb); have n1_ := aA (below_step (mD1 GE243.out) hb); clear BK243 HB; have BK243 := n0_; have HB := n1_; clear n0_ n1_; (try clear hb); (try clear hb2); (try clear hk); (try clear hi)))
         go_roundg k1
         case measure => have := HK1.out; omega
         case rel => exact ⟨(x3_1), (wrap64 (x4_1 + 1)), (by first | rfl | (simp; done) | (simp [*]; done)), (by first | rfl | (simp; done) | (simp [*]; done)), H', ⟨by have := HK1.out; omega⟩, ⟨by (with_reducible repeat (first | refine blk_drewN ?_ _ | refine blk_drew ?_ | refine blk_alloc ?_ _)); exact BK243.out⟩, ⟨by repeat (first | (with_reducible first | exact HB.out | apply below_alloc | apply pw_below_drewN | apply below_drew1 | refine below_set ?_ GE243.out) | exact HB.out)⟩⟩
       ·rw [if_neg c8] at H
        have c8b0 : ((Int.tmod t245 2) == x4_1) = false := beq_eq_false_iff_ne.mpr c8
        have c8b1 : ((Int.tmod t245 2) != x4_1) = true := bne_iff_ne.mpr c8
        have H' := aA H
        clear H
        have hcz20_0 : wr.cell? ⟨gb243, 0, none⟩ = some (.slice A0_0 l0_0.length c0_0) := (blk_cell BK243.out 0).trans rfl
        have hfz20_0 := blk_frozen BK243.out 0
        have p244 : 0 ≤ (x4_1 : Int) := of_decide_eq_true (by first | (with_reducible assumption) | assumption)
        have q244 : x4_1 < (l0_0.length : Int) := of_decide_eq_true (by first | (with_reducible assumption) | assumption)
        obtain ⟨ad244, e244, hx244_0⟩ := Kd.at_string HR0_0.out x4_1 p244 q244
        cases e244
        replace hx244_0 := (HB.out.cell (World.block_lt_of_cell? w _ hx244_0)).trans hx244_0
        replace p244 := eq_true p244
        replace q244 := eq_true q244
        go_wp2_with (first | ((with_reducible refine gate_callee (f := 66) rfl ?_); refine goesL_ (some 19) rfl rfl Try.func66 (by kernel_rfl) rfl #[.string (rdOf ByteArray.empty l0_0 x4_1)] rfl mS ?_; (with_reducible refine (foghornref03_Open.calls (rdOf ByteArray.empty l0_0 x4_1) t245 t246 t247 t248 _ A6.out).mono ?_); rintro e w21 ⟨rfl, hb⟩; refine ⟨_, rfl, ?_⟩; have n0_ := aA (bB BK243.out hb); have n1_ := aA (below_step (mD1 GE243.out) hb); clear BK243 HB; have BK243 := n0_; have HB := n1_; clear n0_ n1_; (try clear hb); (try clear hb2); (try clear hk); (try clear hi)))
        go_roundg k1
        case measure => have := HK1.out; omega
        case rel => exact ⟨(x3_1), (wrap64 (x4_1 + 1)), (by first | rfl | (simp; done) | (simp [*]; done)), (by first | rfl | (simp; done) | (simp [*]; done)), H', ⟨by have := HK1.out; omega⟩, ⟨by (with_reducible repeat (first | refine blk_drewN ?_ _ | refine blk_drew ?_ | refine blk_alloc ?_ _)); exact BK243.out⟩, ⟨by repeat (first | (with_reducible first | exact HB.out | apply below_alloc | apply pw_below_drewN | apply below_drew1 | refine below_set ?_ GE243.out) | exact HB.out)⟩⟩
      ·rw [if_neg c7] at H
       have c7b0 : (t248 == 0) = false := beq_eq_false_iff_ne.mpr c7
       have c7b1 : (t248 != 0) = true := bne_iff_ne.mpr c7
       have H' := aA H
       clear H
       have hcz22_0 : wr.cell? ⟨gb243, 0, none⟩ = some (.slice A0_0 l0_0.length c0_0) := (blk_cell BK243.out 0).trans rfl
       have hfz22_0 := blk_frozen BK243.out 0
       have p244 : 0 ≤ (x4_1 : Int) := of_decide_eq_true (by first | (with_reducible assumption) | assumption)
       have q244 : x4_1 < (l0_0.length : Int) := of_decide_eq_true (by first | (with_reducible assumption) | assumption)
       obtain ⟨ad244, e244, hx244_0⟩ := Kd.at_string HR0_0.out x4_1 p244 q244
       cases e244
       replace hx244_0 := (HB.out.cell (World.block_lt_of_cell? w _ hx244_0)).trans hx244_0
       replace p244 := eq_true p244
       replace q244 := eq_true q244
       go_wp2_with (first | ((with_reducible refine gate_callee (f := 66) rfl ?_); refine goesL_ (some 19) rfl rfl Try.func66 (by kernel_rfl) rfl #[.string (rdOf ByteArray.empty l0_0 x4_1)] rfl mS ?_; (with_reducible refine (foghornref03_Open.calls (rdOf ByteArray.empty l0_0 x4_1) t245 t246 t247 t248 _ A6.out).mono ?_); rintro e w23 ⟨rfl, hb⟩; refine ⟨_, rfl, ?_⟩; have n0_ := aA (bB BK243.out hb); have n1_ := aA (below_step (mD1 GE243.out) hb); clear BK243 HB; have BK243 := n0_; have HB := n1_; clear n0_ n1_; (try clear hb); (try clear hb2); (try clear hk); (try clear hi)))
       go_roundg k1
       case measure => have := HK1.out; omega
       case rel => exact ⟨(x3_1), (wrap64 (x4_1 + 1)), (by first | rfl | (simp; done) | (simp [*]; done)), (by first | rfl | (simp; done) | (simp [*]; done)), H', ⟨by have := HK1.out; omega⟩, ⟨by (with_reducible repeat (first | refine blk_drewN ?_ _ | refine blk_drew ?_ | refine blk_alloc ?_ _)); exact BK243.out⟩, ⟨by repeat (first | (with_reducible first | exact HB.out | apply below_alloc | apply pw_below_drewN | apply below_drew1 | refine below_set ?_ GE243.out) | exact HB.out)⟩⟩
     ·rw [if_neg c5] at H
      exact absurd H (by simp)
    ·rw [if_neg c4] at H
     exact absurd H (by simp)
   ·rw [if_neg c3] at H
    have c3b0 : decide (x4_1 < 2) = false := decide_eq_false c3
    clear c3
    obtain rfl := Option.some.inj H
    go_wp2
    go_ret
    exact ⟨by first | rfl | (simp [errW_none, errW_some] <;> rfl) | (simp [*, errW_none, errW_some] <;> rfl), by repeat (first | (with_reducible first | exact HB.out | apply below_alloc | apply pw_below_drewN | apply below_drew1 | refine below_set ?_ GE243.out) | exact HB.out)⟩
end Go.Proofs.YtopaddpclipnjaaQ.P
namespace Go.Proofs.YtopaddpclipnjaaQ.P
open Go.RowKit Go.Proofs.YtopaddpclipnjaaW.PrintWords Go.Proofs.YtopaddpclipnjaaW.PrintLast Go.Proofs.YtopaddpclipnjaaW.PrintMore
attribute [local go_sem] max2_int min2_int max_two min_two max_three min_three max_four min_four
def foghornref04_is.f (l0_0 : List ByteArray) (a1 : Int) (a2 : Int) (a3 : Int) : Option (ByteArray × Bool) := if 0 ≤ a1 then (if a1 < (l0_0.length : Int) then ((foghornref03_Open.f (rdOf ByteArray.empty l0_0 a1)).bind fun bt251 => (if bt251.2.2.2 = 0 then (if bt251.1 = a2 then (some (bt251.2.2.1, (bt251.2.1 == a3))) else (some (bt251.2.2.1, false))) else (some (bt251.2.2.1, false)))) else (none)) else (none)
set_option maxHeartbeats 8000000 in
set_option maxRecDepth 100000 in
theorem foghornref04_is.calls (A0_0 : Option Addr) (c0_0 : Nat) (l0_0 : List ByteArray) (a1 : Int) (a2 : Int) (a3 : Int) (r1 : ByteArray) (r2 : Bool) (w : World) (hr0_0 : Kd.C Kd.string w A0_0 l0_0.length l0_0) (hc0_0 : l0_0.length ≤ c0_0) (h : foghornref04_is.f l0_0 a1 a2 a3 = some (r1, r2)) :
  Calls Try.prog 45 #[.agg #[.slice A0_0 l0_0.length c0_0], .int .i64 a1, .int .i64 a2, .int .i64 a3] w fun e w' => e = .returned (.tuple #[.string r1, .bool r2]) ∧ Below w.heap.size w w' := by
 have hu24 := Try.underlying24
 have HR0_0 := aA hr0_0
 have HC0_0 := aA hc0_0
 clear hr0_0 hc0_0
 have HB := aA (Below.refl w.heap.size w)
 have H : (if 0 ≤ a1 then (if a1 < (l0_0.length : Int) then ((foghornref03_Open.f (rdOf ByteArray.empty l0_0 a1)).bind fun bt251 => (if bt251.2.2.2 = 0 then (if bt251.1 = a2 then (some (bt251.2.2.1, (bt251.2.1 == a3))) else (some (bt251.2.2.1, false))) else (some (bt251.2.2.1, false)))) else (none)) else (none)) = some (r1, r2) := h
 clear h
 by_cases c5 : 0 ≤ a1
 ·rw [if_pos c5] at H
  have c5b0 : decide (0 ≤ a1) = true := decide_eq_true c5
  clear c5
  by_cases c6 : a1 < (l0_0.length : Int)
  ·rw [if_pos c6] at H
   have c6b0 : decide (a1 < (l0_0.length : Int)) = true := decide_eq_true c6
   clear c6
   replace H := Option.bind_eq_some_iff.mp H
   obtain ⟨⟨t251, t252, t253, t254⟩, A70, H⟩ := H
   replace H : (if t254 = 0 then (if t251 = a2 then (some (t253, (t252 == a3))) else (some (t253, false))) else (some (t253, false))) = some (r1, r2) := H
   have A7 := aA A70
   clear A70
   by_cases c8 : t254 = 0
   ·rw [if_pos c8] at H
    have c8b0 : (t254 == 0) = true := beq_iff_eq.mpr c8
    have c8b1 : (t254 != 0) = false := bne_eq_false_iff_eq.mpr c8
    clear c8
    by_cases c9 : t251 = a2
    ·rw [if_pos c9] at H
     have c9b0 : (t251 == a2) = true := beq_iff_eq.mpr c9
     have c9b1 : (t251 != a2) = false := bne_eq_false_iff_eq.mpr c9
     clear c9
     simp only [Option.some.injEq, Prod.mk.injEq] at H
     obtain ⟨rfl, rfl⟩ := H
     go_enter Try.func45, Try.ntmps45
     go_wp2_with (first | ((with_reducible refine gate_dst (N := 4) rfl ?_); refine box_event ?hg (N := 4) ?hd (cs := #[.slice A0_0 l0_0.length c0_0]) (t := 24) ?hr ?_; (case hd => rfl); (case hg => rfl); (case hr => first | (go_simp; done) | (go_simp; rfl)); intro gb249 hg w10 hbox hb; have n0_ := aA (below_step mB hb); have n1_ := aA (hbox); have n2_ := aA ((bZ hg mB)); have n3_ := aA ((bZ hg mB)); clear HB; have HB := n0_; have BK249 := n1_; have GW249 := n2_; have GE249 := n3_; clear n0_ n1_ n2_ n3_ hb hbox hg; have hcz11_0 : w10.cell? ⟨gb249, 0, none⟩ = some (.slice A0_0 l0_0.length c0_0) := (blk_cell BK249.out 0).trans rfl; have hfz11_0 := blk_frozen BK249.out 0; have p250 : 0 ≤ (a1 : Int) := of_decide_eq_true (by first | (with_reducible assumption) | assumption); have q250 : a1 < (l0_0.length : Int) := of_decide_eq_true (by first | (with_reducible assumption) | assumption); obtain ⟨ad250, e250, hx250_0⟩ := Kd.at_string HR0_0.out a1 p250 q250; cases e250; replace hx250_0 := (HB.out.cell (World.block_lt_of_cell? w _ hx250_0)).trans hx250_0; replace p250 := eq_true p250; replace q250 := eq_true q250) | ((with_reducible refine gate_callee (f := 66) rfl ?_); refine goesL_ (some 20) rfl rfl Try.func66 (by kernel_rfl) rfl #[.string (rdOf ByteArray.empty l0_0 a1)] rfl mS ?_; (with_reducible refine (foghornref03_Open.calls (rdOf ByteArray.empty l0_0 a1) t251 t252 t253 t254 _ A7.out).mono ?_); rintro e w12 ⟨rfl, hb⟩; refine ⟨_, rfl, ?_⟩; have n0_ := aA (bB BK249.out hb); have n1_ := aA (below_step (mD1 GE249.out) hb); clear BK249 HB; have BK249 := n0_; have HB := n1_; clear n0_ n1_; (try clear hb); (try clear hb2); (try clear hk); (try clear hi)))
     go_ret2
     exact ⟨by first | rfl | (simp [errW_none, errW_some] <;> rfl) | (simp [*, errW_none, errW_some] <;> rfl), by repeat (first | (with_reducible first | exact HB.out | apply below_alloc | apply pw_below_drewN | apply below_drew1 | refine below_set ?_ GE249.out) | exact HB.out)⟩
    ·rw [if_neg c9] at H
     have c9b0 : (t251 == a2) = false := beq_eq_false_iff_ne.mpr c9
     have c9b1 : (t251 != a2) = true := bne_iff_ne.mpr c9
     simp only [Option.some.injEq, Prod.mk.injEq] at H
     obtain ⟨rfl, rfl⟩ := H
     go_enter Try.func45, Try.ntmps45
     go_wp2_with (first | ((with_reducible refine gate_dst (N := 4) rfl ?_); refine box_event ?hg (N := 4) ?hd (cs := #[.slice A0_0 l0_0.length c0_0]) (t := 24) ?hr ?_; (case hd => rfl); (case hg => rfl); (case hr => first | (go_simp; done) | (go_simp; rfl)); intro gb249 hg w13 hbox hb; have n0_ := aA (below_step mB hb); have n1_ := aA (hbox); have n2_ := aA ((bZ hg mB)); have n3_ := aA ((bZ hg mB)); clear HB; have HB := n0_; have BK249 := n1_; have GW249 := n2_; have GE249 := n3_; clear n0_ n1_ n2_ n3_ hb hbox hg; have hcz14_0 : w13.cell? ⟨gb249, 0, none⟩ = some (.slice A0_0 l0_0.length c0_0) := (blk_cell BK249.out 0).trans rfl; have hfz14_0 := blk_frozen BK249.out 0; have p250 : 0 ≤ (a1 : Int) := of_decide_eq_true (by first | (with_reducible assumption) | assumption); have q250 : a1 < (l0_0.length : Int) := of_decide_eq_true (by first | (with_reducible assumption) | assumption); obtain ⟨ad250, e250, hx250_0⟩ := Kd.at_string HR0_0.out a1 p250 q250; cases e250; replace hx250_0 := (HB.out.cell (World.block_lt_of_cell? w _ hx250_0)).trans hx250_0; replace p250 := eq_true p250; replace q250 := eq_true q250) | ((with_reducible refine gate_callee (f := 66) rfl ?_); refine goesL_ (some 20) rfl rfl Try.func66 (by kernel_rfl) rfl #[.string (rdOf ByteArray.empty l0_0 a1)] rfl mS ?_; (with_reducible refine (foghornref03_Open.calls (rdOf ByteArray.empty l0_0 a1) t251 t252 t253 t254 _ A7.out).mono ?_); rintro e w15 ⟨rfl, hb⟩; refine ⟨_, rfl, ?_⟩; have n0_ := aA (bB BK249.out hb); have n1_ := aA (below_step (mD1 GE249.out) hb); clear BK249 HB; have BK249 := n0_; have HB := n1_; clear n0_ n1_; (try clear hb); (try clear hb2); (try clear hk); (try clear hi)))
     go_ret2
     exact ⟨by first | rfl | (simp [errW_none, errW_some] <;> rfl) | (simp [*, errW_none, errW_some] <;> rfl), by repeat (first | (with_reducible first | exact HB.out | apply below_alloc | apply pw_below_drewN | apply below_drew1 | refine below_set ?_ GE249.out) | exact HB.out)⟩
   ·rw [if_neg c8] at H
    have c8b0 : (t254 == 0) = false := beq_eq_false_iff_ne.mpr c8
    have c8b1 : (t254 != 0) = true := bne_iff_ne.mpr c8
    simp only [Option.some.injEq, Prod.mk.injEq] at H
    obtain ⟨rfl, rfl⟩ := H
    go_enter Try.func45, Try.ntmps45
    go_wp2_with (first | ((with_reducible refine gate_dst (N := 4) rfl ?_); refine box_event ?hg (N := 4) ?hd (cs := #[.slice A0_0 l0_0.length c0_0]) (t := 24) ?hr ?_; (case hd => rfl); (case hg => rfl); (case hr => first | (go_simp; done) | (go_simp; rfl)); intro gb249 hg w16 hbox hb; have n0_ := aA (below_step mB hb); have n1_ := aA (hbox); have n2_ := aA ((bZ hg mB)); have n3_ := aA ((bZ hg mB)); clear HB; have HB := n0_; have BK249 := n1_; have GW249 := n2_; have GE249 := n3_; clear n0_ n1_ n2_ n3_ hb hbox hg; have hcz17_0 : w16.cell? ⟨gb249, 0, none⟩ = some (.slice A0_0 l0_0.length c0_0) := (blk_cell BK249.out 0).trans rfl; have hfz17_0 := blk_frozen BK249.out 0; have p250 : 0 ≤ (a1 : Int) := of_decide_eq_true (by first | (with_reducible assumption) | assumption); have q250 : a1 < (l0_0.length : Int) := of_decide_eq_true (by first | (with_reducible assumption) | assumption); obtain ⟨ad250, e250, hx250_0⟩ := Kd.at_string HR0_0.out a1 p250 q250; cases e250; replace hx250_0 := (HB.out.cell (World.block_lt_of_cell? w _ hx250_0)).trans hx250_0; replace p250 := eq_true p250; replace q250 := eq_true q250) | ((with_reducible refine gate_callee (f := 66) rfl ?_); refine goesL_ (some 20) rfl rfl Try.func66 (by kernel_rfl) rfl #[.string (rdOf ByteArray.empty l0_0 a1)] rfl mS ?_; (with_reducible refine (foghornref03_Open.calls (rdOf ByteArray.empty l0_0 a1) t251 t252 t253 t254 _ A7.out).mono ?_); rintro e w18 ⟨rfl, hb⟩; refine ⟨_, rfl, ?_⟩; have n0_ := aA (bB BK249.out hb); have n1_ := aA (below_step (mD1 GE249.out) hb); clear BK249 HB; have BK249 := n0_; have HB := n1_; clear n0_ n1_; (try clear hb); (try clear hb2); (try clear hk); (try clear hi)))
    go_ret2
    exact ⟨by first | rfl | (simp [errW_none, errW_some] <;> rfl) | (simp [*, errW_none, errW_some] <;> rfl), by repeat (first | (with_reducible first | exact HB.out | apply below_alloc | apply pw_below_drewN | apply below_drew1 | refine below_set ?_ GE249.out) | exact HB.out)⟩
  ·rw [if_neg c6] at H
   exact absurd H (by simp)
 ·rw [if_neg c5] at H
  exact absurd H (by simp)
end Go.Proofs.YtopaddpclipnjaaQ.P
namespace Go.Proofs.YtopaddpclipnjaaQ.P
open Go.RowKit Go.Proofs.YtopaddpclipnjaaW.PrintWords Go.Proofs.YtopaddpclipnjaaW.PrintLast Go.Proofs.YtopaddpclipnjaaW.PrintMore
attribute [local go_sem] max2_int min2_int max_two min_two max_three min_three max_four min_four
def foghornref04_place.f (l0_0 : List ByteArray) (a1 : Int) (a2 : Int) : Option (Int) := if (Int.tmod a1 2) = 0 then (some (wrap64 (2 + a2))) else ((foghornref04_Area.f l0_0).bind fun t256 => (some (wrap64 ((wrap64 (2 + t256)) + a2))))
set_option maxHeartbeats 8000000 in
set_option maxRecDepth 100000 in
theorem foghornref04_place.calls (A0_0 : Option Addr) (c0_0 : Nat) (l0_0 : List ByteArray) (a1 : Int) (a2 : Int) (r : Int) (w : World) (hr0_0 : Kd.C Kd.string w A0_0 l0_0.length l0_0) (hc0_0 : l0_0.length ≤ c0_0) (h : foghornref04_place.f l0_0 a1 a2 = some r) :
  Calls Try.prog 46 #[.agg #[.slice A0_0 l0_0.length c0_0], .int .i64 a1, .int .i64 a2] w fun e w' => e = .returned (.int .i64 r) ∧ Below w.heap.size w w' := by
 have hu24 := Try.underlying24
 have HR0_0 := aA hr0_0
 have HC0_0 := aA hc0_0
 clear hr0_0 hc0_0
 have HB := aA (Below.refl w.heap.size w)
 have H : (if (Int.tmod a1 2) = 0 then (some (wrap64 (2 + a2))) else ((foghornref04_Area.f l0_0).bind fun t256 => (some (wrap64 ((wrap64 (2 + t256)) + a2))))) = some r := h
 clear h
 by_cases c4 : (Int.tmod a1 2) = 0
 ·rw [if_pos c4] at H
  have c4b0 : ((Int.tmod a1 2) == 0) = true := beq_iff_eq.mpr c4
  have c4b1 : ((Int.tmod a1 2) != 0) = false := bne_eq_false_iff_eq.mpr c4
  clear c4
  obtain rfl := Option.some.inj H
  go_enter Try.func46, Try.ntmps46
  go_wp2_with (first | ((with_reducible refine gate_dst (N := 3) rfl ?_); refine box_event ?hg (N := 3) ?hd (cs := #[.slice A0_0 l0_0.length c0_0]) (t := 24) ?hr ?_; (case hd => rfl); (case hg => rfl); (case hr => first | (go_simp; done) | (go_simp; rfl)); intro gb255 hg w5 hbox hb; have n0_ := aA (below_step mB hb); have n1_ := aA (hbox); have n2_ := aA ((bZ hg mB)); have n3_ := aA ((bZ hg mB)); clear HB; have HB := n0_; have BK255 := n1_; have GW255 := n2_; have GE255 := n3_; clear n0_ n1_ n2_ n3_ hb hbox hg))
  go_ret
  exact ⟨by first | rfl | (simp [errW_none, errW_some] <;> rfl) | (simp [*, errW_none, errW_some] <;> rfl), by repeat (first | (with_reducible first | exact HB.out | apply below_alloc | apply pw_below_drewN | apply below_drew1 | refine below_set ?_ GE255.out) | exact HB.out)⟩
 ·rw [if_neg c4] at H
  have c4b0 : ((Int.tmod a1 2) == 0) = false := beq_eq_false_iff_ne.mpr c4
  have c4b1 : ((Int.tmod a1 2) != 0) = true := bne_iff_ne.mpr c4
  replace H := Option.bind_eq_some_iff.mp H
  obtain ⟨t256, A60, H⟩ := H
  have A6 := aA A60
  clear A60
  obtain rfl := Option.some.inj H
  go_enter Try.func46, Try.ntmps46
  go_wp2_with (first | ((with_reducible refine gate_dst (N := 3) rfl ?_); refine box_event ?hg (N := 3) ?hd (cs := #[.slice A0_0 l0_0.length c0_0]) (t := 24) ?hr ?_; (case hd => rfl); (case hg => rfl); (case hr => first | (go_simp; done) | (go_simp; rfl)); intro gb255 hg w7 hbox hb; have n0_ := aA (below_step mB hb); have n1_ := aA (hbox); have n2_ := aA ((bZ hg mB)); have n3_ := aA ((bZ hg mB)); clear HB; have HB := n0_; have BK255 := n1_; have GW255 := n2_; have GE255 := n3_; clear n0_ n1_ n2_ n3_ hb hbox hg; have hcz8_0 : w7.cell? ⟨gb255, 0, none⟩ = some (.slice A0_0 l0_0.length c0_0) := (blk_cell BK255.out 0).trans rfl; have hfz8_0 := blk_frozen BK255.out 0) | ((with_reducible refine gate_callee (f := 24) rfl ?_); refine goesL_ (some 13) rfl rfl Try.func24 (by kernel_rfl) rfl #[.agg #[.slice A0_0 l0_0.length c0_0]] rfl mS ?_; (with_reducible refine (foghornref04_Area.calls _ _ l0_0 t256 _ ?side1 ?side2 A6.out).mono ?_); (case side1 => exact mC ((Kd.C_below HR0_0.out HB.out))); (case side2 => exact HC0_0.out); rintro e w9 ⟨rfl, hb⟩; refine ⟨_, rfl, ?_⟩; have n0_ := aA (bB BK255.out hb); have n1_ := aA (below_step (mD1 GE255.out) hb); clear BK255 HB; have BK255 := n0_; have HB := n1_; clear n0_ n1_; (try clear hb); (try clear hb2); (try clear hk); (try clear hi)))
  go_ret
  exact ⟨by first | rfl | (simp [errW_none, errW_some] <;> rfl) | (simp [*, errW_none, errW_some] <;> rfl), by repeat (first | (with_reducible first | exact HB.out | apply below_alloc | apply pw_below_drewN | apply below_drew1 | refine below_set ?_ GE255.out) | exact HB.out)⟩
end Go.Proofs.YtopaddpclipnjaaQ.P
