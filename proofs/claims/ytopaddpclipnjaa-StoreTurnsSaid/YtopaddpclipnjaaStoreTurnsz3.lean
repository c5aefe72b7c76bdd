/- Part 3 of a proof: contracts and plain laws of what the statement reaches. No condition. -/
import Derived.Test.YtopaddpclipnjaaChecked
import Derived.LoopTactic
import Derived.Outline
import Derived.Laws.RangeAny
import Derived.Shelf.Abstract
import Derived.Defers
import Derived.Recover
import Derived.WalkLawsBesides
import Derived.Laws.EntriesVeiled
import Derived.Test.YtopaddpclipnjaaStoreTurnsz1
import Derived.Test.YtopaddpclipnjaaStoreTurnsz2
set_option linter.unusedVariables false
set_option linter.unusedSimpArgs false
namespace Go.Proofs.YtopaddpclipnjaaQ.P
open Go.RowKit Go.Proofs.YtopaddpclipnjaaW.PrintWords Go.Proofs.YtopaddpclipnjaaW.PrintLast Go.Proofs.YtopaddpclipnjaaW.PrintMore
attribute [local go_sem] max2_int min2_int max_two min_two max_three min_three max_four min_four
def store_Right.f (l0_0 : List ByteArray) (a0_1 : Int) (a0_2 : Int) (a0_3 : Int) (a0_4 : Bool) : Option (Bool) := (store_hasLog.f l0_0).bind fun t152 => (if t152 = true then ((store_in.f a0_1 1 250).bind fun t153 => (if t153 = true then ((store_area.f l0_0).bind fun t154 => ((store_in.f a0_2 0 t154).bind fun t155 => (if t155 = true then ((store_in.f a0_3 a0_1 250).bind fun t156 => (some t156)) else (some false)))) else (some false))) else (some false))
def store_Right.T1 : Bool × List (List Nat × List Nat) := (true, [([], []), ([0], [0]), ([1], [1]), ([2, 2], [2]), ([3], [3]), ([4, 3], [3, 4]), ([5, 3, 3], [3, 5]), ([3, 6], [3, 6]), ([7, 6], [7]), ([8], [8]), ([9, 8], [8, 9]), ([8], [8]), ([11, 8], [8, 11]), ([12, 8, 8], [8, 12]), ([10, 13, 13, 8], [8, 10, 13]), ([8, 14], [8, 14]), ([15, 14], [15]), ([16], [16]), ([17, 16], [16, 17]), ([16], [16]), ([19, 16], [16, 19]), ([18, 20, 16, 16], [16, 18, 20]), ([16, 21], [16, 21]), ([22, 21, 0, 1, 2, 3, 4, 5, 6, 7, 8, 9, 10, 11, 12, 13, 14, 15, 16, 17, 18, 19, 20, 21, 22], [22])])
def store_Right.B1 : List Nat := [0, 1, 3, 7, 15, 31, 63, 127, 255, 511, 1023, 511, 2559, 6655, 16383, 32767, 65535, 131071, 262143, 131071, 655359, 2097151, 4194303, 8388607]
theorem store_Right.tab1 : rtab .any (opsOf Try.f13 1) = store_Right.T1 := by kernel_rfl
theorem store_Right.bits1 : waitsOk store_Right.T1.2 store_Right.B1 = true := by kernel_rfl
set_option maxHeartbeats 8000000 in
set_option maxRecDepth 100000 in
theorem store_Right.calls (A0_0 : Option Addr) (c0_0 : Nat) (l0_0 : List ByteArray) (a0_1 : Int) (a0_2 : Int) (a0_3 : Int) (a0_4 : Bool) (r : Bool) (w : World) (hr0_0 : Kd.C Kd.string w A0_0 l0_0.length l0_0) (hc0_0 : l0_0.length ≤ c0_0) (h : store_Right.f l0_0 a0_1 a0_2 a0_3 a0_4 = some r) :
  Calls Try.prog 13 #[.agg #[.slice A0_0 l0_0.length c0_0, .int .i64 a0_1, .int .i64 a0_2, .int .i64 a0_3, .bool a0_4]] w fun e w' => e = .returned (.bool r) ∧ Below w.heap.size w w' := by
 have hu26 := Try.underlying26
 have hu24 := Try.underlying24
 have HR0_0 := aA hr0_0
 have HC0_0 := aA hc0_0
 clear hr0_0 hc0_0
 have HB := aA (Below.refl w.heap.size w)
 have H : ((store_hasLog.f l0_0).bind fun t152 => (if t152 = true then ((store_in.f a0_1 1 250).bind fun t153 => (if t153 = true then ((store_area.f l0_0).bind fun t154 => ((store_in.f a0_2 0 t154).bind fun t155 => (if t155 = true then ((store_in.f a0_3 a0_1 250).bind fun t156 => (some t156)) else (some false)))) else (some false))) else (some false))) = some r := h
 clear h
 replace H := Option.bind_eq_some_iff.mp H
 obtain ⟨t152, A20, H⟩ := H
 have A2 := aA A20
 clear A20
 by_cases c3 : t152 = true
 ·subst c3
  have H1 : ((store_in.f a0_1 1 250).bind fun t153 => (if t153 = true then ((store_area.f l0_0).bind fun t154 => ((store_in.f a0_2 0 t154).bind fun t155 => (if t155 = true then ((store_in.f a0_3 a0_1 250).bind fun t156 => (some t156)) else (some false)))) else (some false))) = some r := by rw [if_pos rfl] at H; exact H
  clear H
  have H := H1
  clear H1
  replace H := Option.bind_eq_some_iff.mp H
  obtain ⟨t153, A40, H⟩ := H
  have A4 := aA A40
  clear A40
  by_cases c5 : t153 = true
  ·subst c5
   have H1 : ((store_area.f l0_0).bind fun t154 => ((store_in.f a0_2 0 t154).bind fun t155 => (if t155 = true then ((store_in.f a0_3 a0_1 250).bind fun t156 => (some t156)) else (some false)))) = some r := by rw [if_pos rfl] at H; exact H
   clear H
   have H := H1
   clear H1
   replace H := Option.bind_eq_some_iff.mp H
   obtain ⟨t154, A60, H⟩ := H
   have A6 := aA A60
   clear A60
   replace H := Option.bind_eq_some_iff.mp H
   obtain ⟨t155, A70, H⟩ := H
   have A7 := aA A70
   clear A70
   by_cases c8 : t155 = true
   ·subst c8
    have H1 : ((store_in.f a0_3 a0_1 250).bind fun t156 => (some t156)) = some r := by rw [if_pos rfl] at H; exact H
    clear H
    have H := H1
    clear H1
    replace H := Option.bind_eq_some_iff.mp H
    obtain ⟨t156, A90, H⟩ := H
    have A9 := aA A90
    clear A90
    obtain rfl := Option.some.inj H
    go_enter Try.func13, Try.ntmps13
    try go_wp2_with (first | ((with_reducible refine gate_dst (N := 1) rfl ?_); refine box_event ?hg (N := 1) ?hd (cs := #[.slice A0_0 l0_0.length c0_0, .int .i64 a0_1, .int .i64 a0_2, .int .i64 a0_3, .bool a0_4]) (t := 26) ?hr ?_; (case hd => rfl); (case hg => rfl); (case hr => first | (go_simp; done) | (go_simp; rfl)); intro gb151 hg w10 hbox hb; have n0_ := aA (below_step mB hb); have n1_ := aA (hbox); have n2_ := aA ((bZ hg mB)); have n3_ := aA ((bZ hg mB)); clear HB; have HB := n0_; have BK151 := n1_; have GW151 := n2_; have GE151 := n3_; clear n0_ n1_ n2_ n3_ hb hbox hg))
    have n0_ := aA (blk_drew BK151.out)
    have n1_ := aA (below_drew1 HB.out)
    clear BK151
    clear HB
    have BK151 := n0_
    have HB := n1_
    clear n0_ n1_
    refine start_ (n := 24) (S := fun w' => w'.cell? ⟨gb151, 0, none⟩ = some (.slice A0_0 l0_0.length c0_0) ∧ w'.cell? ⟨gb151, 1, none⟩ = some (.int .i64 a0_1) ∧ w'.cell? ⟨gb151, 2, none⟩ = some (.int .i64 a0_2) ∧ w'.cell? ⟨gb151, 3, none⟩ = some (.int .i64 a0_3) ∧ w'.cell? ⟨gb151, 4, none⟩ = some (.bool a0_4)) (ds := []) #[false, false, false, false, false, false, false, false, false, false, false, false, false, false, false, false, false, false, false, false, false, false, false, false] (by kernel_rfl) rfl rfl (bC5 BK151.out) (fun hHeld => ?_); refine with_tabW store_Right.tab1 store_Right.bits1 (fun HT_ HW_ => ?_)
    generalize w10.drew = w11 at BK151 HB hHeld ⊢
    refine pure_ (i := 0) (N := some 3) (v := ?_) (a' := ?_) #[true, false, false, false, false, false, false, false, false, false, false, false, false, false, false, false, false, false, false, false, false, false, false, false] rfl rfl (any_of HT_.out (by kernel_rfl)) (fun _ _ _ h => h) (Or.inl ⟨by rfl, ?_⟩) ?_ ?_
    rotate_left
    ·intro w'
     go_simp
     with_reducible rfl
    rotate_left
    ·exact mP
    refine take_ (i := 1) (N := some 4) (v := ?_) (a' := ?_) #[true, true, false, false, false, false, false, false, false, false, false, false, false, false, false, false, false, false, false, false, false, false, false, false] rfl rfl (take_ofW HT_.out HW_.out (by kernel_rfl)) (fun _ _ _ h => h) (Or.inl ⟨by rfl, ?_⟩) hHeld ?_ ?_
    rotate_left
    ·rintro w' ⟨s0, s1, s2, s3, s4⟩
     go_simp
     with_reducible rfl
    rotate_left
    ·exact mP
    refine one_ (i := 2) (N := some 5) #[true, true, true, false, false, false, false, false, false, false, false, false, false, false, false, false, false, false, false, false, false, false, false, false] rfl rfl (one_of HT_.out (by kernel_rfl)) (by decide) (fun K hK => ?_)
    refine goes_ Try.func35 (by kernel_rfl) rfl #[.agg #[.slice A0_0 l0_0.length c0_0]] (by rfl) rfl rfl mS ?_
    with_reducible refine (store_hasLog.calls _ _ l0_0 true _ ?side1 ?side2 A2.out).mono ?_
    (case side1 => exact mC ((Kd.C_below HR0_0.out HB.out)))
    (case side2 => exact HC0_0.out)
    rintro e w12 ⟨rfl, hb⟩
    refine ⟨_, rfl, ?_⟩
    have n0_ := aA (bB BK151.out hb)
    have n1_ := aA (below_step (mD1 GE151.out) hb)
    clear BK151
    clear HB
    have BK151 := n0_
    have HB := n1_
    clear n0_ n1_
    (try clear hb)
    (try clear hb2)
    (try clear hk)
    (try clear hi)
    refine hK.out _ _ (bC5 BK151.out) (fun hHeld => ?_)
    clear hK K
    refine norm_ (a' := ?_) ?_ ?_
    rotate_left
    ·show Act.put _ (some 5) _ = _
     simp only [Act.put, List.setIfInBounds_toArray, List.set_cons_zero, List.set_cons_succ, i64_w, i32_w]
     rfl
    refine pure_ (i := 3) (N := some 6) (v := ?_) (a' := ?_) #[true, true, true, true, false, false, false, false, false, false, false, false, false, false, false, false, false, false, false, false, false, false, false, false] rfl rfl (any_of HT_.out (by kernel_rfl)) (fun _ _ _ h => h) (Or.inl ⟨by rfl, ?_⟩) ?_ ?_
    rotate_left
    ·intro w'
     go_simp
     with_reducible rfl
    rotate_left
    ·exact mP
    refine pure_ (i := 4) (N := some 7) (v := ?_) (a' := ?_) #[true, true, true, true, true, false, false, false, false, false, false, false, false, false, false, false, false, false, false, false, false, false, false, false] rfl rfl (any_of HT_.out (by kernel_rfl)) (fun _ _ _ h => h) (Or.inl ⟨by rfl, ?_⟩) ?_ ?_
    rotate_left
    ·intro w'
     go_simp
     with_reducible rfl
    rotate_left
    ·exact mP
    refine take_ (i := 5) (N := some 8) (v := ?_) (a' := ?_) #[true, true, true, true, true, true, false, false, false, false, false, false, false, false, false, false, false, false, false, false, false, false, false, false] rfl rfl (take_ofW HT_.out HW_.out (by kernel_rfl)) (fun _ _ _ h => h) (Or.inl ⟨by rfl, ?_⟩) hHeld ?_ ?_
    rotate_left
    ·rintro w' ⟨s0, s1, s2, s3, s4⟩
     go_simp
     with_reducible rfl
    rotate_left
    ·exact mP
    refine one_ (i := 6) (N := some 9) #[true, true, true, true, true, true, true, false, false, false, false, false, false, false, false, false, false, false, false, false, false, false, false, false] rfl rfl (one_of HT_.out (by kernel_rfl)) (by decide) (fun K hK => ?_)
    refine goes_ Try.func39 (by kernel_rfl) rfl #[.int .i64 a0_1, .int .i64 1, .int .i64 250] (by rfl) rfl rfl mS ?_
    with_reducible refine (store_in.calls a0_1 1 250 true _ A4.out).mono ?_
    rintro e w' ⟨rfl, ⟨nd, rfl⟩⟩
    refine ⟨_, rfl, ?_⟩
    refine hK.out _ _ (bC5 BK151.out) (fun hHeld => ?_)
    clear hK K
    refine norm_ (a' := ?_) ?_ ?_
    rotate_left
    ·show Act.put _ (some 9) _ = _
     simp only [Act.put, List.setIfInBounds_toArray, List.set_cons_zero, List.set_cons_succ, i64_w, i32_w]
     rfl
    refine pure_ (i := 7) (N := some 10) (v := ?_) (a' := ?_) #[true, true, true, true, true, true, true, true, false, false, false, false, false, false, false, false, false, false, false, false, false, false, false, false] rfl rfl (any_of HT_.out (by kernel_rfl)) (fun _ _ _ h => h) (Or.inl ⟨by rfl, ?_⟩) ?_ ?_
    rotate_left
    ·intro w'
     go_simp
     with_reducible rfl
    rotate_left
    ·exact mP
    refine pure_ (i := 8) (N := some 11) (v := ?_) (a' := ?_) #[true, true, true, true, true, true, true, true, true, false, false, false, false, false, false, false, false, false, false, false, false, false, false, false] rfl rfl (any_of HT_.out (by kernel_rfl)) (fun _ _ _ h => h) (Or.inl ⟨by rfl, ?_⟩) ?_ ?_
    rotate_left
    ·intro w'
     go_simp
     with_reducible rfl
    rotate_left
    ·exact mP
    refine pure_ (i := 9) (N := some 12) (v := ?_) (a' := ?_) #[true, true, true, true, true, true, true, true, true, true, false, false, false, false, false, false, false, false, false, false, false, false, false, false] rfl rfl (any_of HT_.out (by kernel_rfl)) (fun _ _ _ h => h) (Or.inl ⟨by rfl, ?_⟩) ?_ ?_
    rotate_left
    ·intro w'
     go_simp
     with_reducible rfl
    rotate_left
    ·exact mP
    refine pure_ (i := 11) (N := some 14) (v := ?_) (a' := ?_) #[true, true, true, true, true, true, true, true, true, true, false, true, false, false, false, false, false, false, false, false, false, false, false, false] rfl rfl (any_of HT_.out (by kernel_rfl)) (fun _ _ _ h => h) (Or.inl ⟨by rfl, ?_⟩) ?_ ?_
    rotate_left
    ·intro w'
     go_simp
     with_reducible rfl
    rotate_left
    ·exact mP
    refine take_ (i := 10) (N := some 13) (v := ?_) (a' := ?_) #[true, true, true, true, true, true, true, true, true, true, true, true, false, false, false, false, false, false, false, false, false, false, false, false] rfl rfl (take_ofW HT_.out HW_.out (by kernel_rfl)) (fun _ _ _ h => h) (Or.inl ⟨by rfl, ?_⟩) hHeld ?_ ?_
    rotate_left
    ·rintro w' ⟨s0, s1, s2, s3, s4⟩
     go_simp
     with_reducible rfl
    rotate_left
    ·exact mP
    refine take_ (i := 12) (N := some 15) (v := ?_) (a' := ?_) #[true, true, true, true, true, true, true, true, true, true, true, true, true, false, false, false, false, false, false, false, false, false, false, false] rfl rfl (take_ofW HT_.out HW_.out (by kernel_rfl)) (fun _ _ _ h => h) (Or.inl ⟨by rfl, ?_⟩) hHeld ?_ ?_
    rotate_left
    ·rintro w' ⟨s0, s1, s2, s3, s4⟩
     go_simp
     with_reducible rfl
    rotate_left
    ·exact mP
    refine one_ (i := 13) (N := some 16) #[true, true, true, true, true, true, true, true, true, true, true, true, true, true, false, false, false, false, false, false, false, false, false, false] rfl rfl (one_of HT_.out (by kernel_rfl)) (by decide) (fun K hK => ?_)
    refine goes_ Try.func37 (by kernel_rfl) rfl #[.agg #[.slice A0_0 l0_0.length c0_0]] (by rfl) rfl rfl mS ?_
    with_reducible refine (store_area.calls _ _ l0_0 t154 _ ?side1 ?side2 A6.out).mono ?_
    (case side1 => exact mC ((Kd.C_below HR0_0.out (mD1 GE151.out))))
    (case side2 => exact HC0_0.out)
    rintro e w13 ⟨rfl, hb⟩
    refine ⟨_, rfl, ?_⟩
    have n0_ := aA (bB BK151.out hb)
    have n1_ := aA (below_step (mD1 GE151.out) hb)
    clear BK151
    clear HB
    have BK151 := n0_
    have HB := n1_
    clear n0_ n1_
    (try clear hb)
    (try clear hb2)
    (try clear hk)
    (try clear hi)
    refine hK.out _ _ (bC5 BK151.out) (fun hHeld => ?_)
    clear hK K
    refine norm_ (a' := ?_) ?_ ?_
    rotate_left
    ·show Act.put _ (some 16) _ = _
     simp only [Act.put, List.setIfInBounds_toArray, List.set_cons_zero, List.set_cons_succ, i64_w, i32_w]
     rfl
    refine one_ (i := 14) (N := some 17) #[true, true, true, true, true, true, true, true, true, true, true, true, true, true, true, false, false, false, false, false, false, false, false, false] rfl rfl (one_of HT_.out (by kernel_rfl)) (by decide) (fun K hK => ?_)
    refine goes_ Try.func39 (by kernel_rfl) rfl #[.int .i64 a0_2, .int .i64 0, .int .i64 t154] (by rfl) rfl rfl mS ?_
    with_reducible refine (store_in.calls a0_2 0 t154 true _ A7.out).mono ?_
    rintro e w' ⟨rfl, ⟨nd, rfl⟩⟩
    refine ⟨_, rfl, ?_⟩
    refine hK.out _ _ (bC5 BK151.out) (fun hHeld => ?_)
    clear hK K
    refine norm_ (a' := ?_) ?_ ?_
    rotate_left
    ·show Act.put _ (some 17) _ = _
     simp only [Act.put, List.setIfInBounds_toArray, List.set_cons_zero, List.set_cons_succ, i64_w, i32_w]
     rfl
    refine pure_ (i := 15) (N := some 18) (v := ?_) (a' := ?_) #[true, true, true, true, true, true, true, true, true, true, true, true, true, true, true, true, false, false, false, false, false, false, false, false] rfl rfl (any_of HT_.out (by kernel_rfl)) (fun _ _ _ h => h) (Or.inl ⟨by rfl, ?_⟩) ?_ ?_
    rotate_left
    ·intro w'
     go_simp
     with_reducible rfl
    rotate_left
    ·exact mP
    refine pure_ (i := 16) (N := some 19) (v := ?_) (a' := ?_) #[true, true, true, true, true, true, true, true, true, true, true, true, true, true, true, true, true, false, false, false, false, false, false, false] rfl rfl (any_of HT_.out (by kernel_rfl)) (fun _ _ _ h => h) (Or.inl ⟨by rfl, ?_⟩) ?_ ?_
    rotate_left
    ·intro w'
     go_simp
     with_reducible rfl
    rotate_left
    ·exact mP
    refine pure_ (i := 17) (N := some 20) (v := ?_) (a' := ?_) #[true, true, true, true, true, true, true, true, true, true, true, true, true, true, true, true, true, true, false, false, false, false, false, false] rfl rfl (any_of HT_.out (by kernel_rfl)) (fun _ _ _ h => h) (Or.inl ⟨by rfl, ?_⟩) ?_ ?_
    rotate_left
    ·intro w'
     go_simp
     with_reducible rfl
    rotate_left
    ·exact mP
    refine pure_ (i := 19) (N := some 22) (v := ?_) (a' := ?_) #[true, true, true, true, true, true, true, true, true, true, true, true, true, true, true, true, true, true, false, true, false, false, false, false] rfl rfl (any_of HT_.out (by kernel_rfl)) (fun _ _ _ h => h) (Or.inl ⟨by rfl, ?_⟩) ?_ ?_
    rotate_left
    ·intro w'
     go_simp
     with_reducible rfl
    rotate_left
    ·exact mP
    refine take_ (i := 18) (N := some 21) (v := ?_) (a' := ?_) #[true, true, true, true, true, true, true, true, true, true, true, true, true, true, true, true, true, true, true, true, false, false, false, false] rfl rfl (take_ofW HT_.out HW_.out (by kernel_rfl)) (fun _ _ _ h => h) (Or.inl ⟨by rfl, ?_⟩) hHeld ?_ ?_
    rotate_left
    ·rintro w' ⟨s0, s1, s2, s3, s4⟩
     go_simp
     with_reducible rfl
    rotate_left
    ·exact mP
    refine take_ (i := 20) (N := some 23) (v := ?_) (a' := ?_) #[true, true, true, true, true, true, true, true, true, true, true, true, true, true, true, true, true, true, true, true, true, false, false, false] rfl rfl (take_ofW HT_.out HW_.out (by kernel_rfl)) (fun _ _ _ h => h) (Or.inl ⟨by rfl, ?_⟩) hHeld ?_ ?_
    rotate_left
    ·rintro w' ⟨s0, s1, s2, s3, s4⟩
     go_simp
     with_reducible rfl
    rotate_left
    ·exact mP
    refine one_ (i := 21) (N := some 24) #[true, true, true, true, true, true, true, true, true, true, true, true, true, true, true, true, true, true, true, true, true, true, false, false] rfl rfl (one_of HT_.out (by kernel_rfl)) (by decide) (fun K hK => ?_)
    refine goes_ Try.func39 (by kernel_rfl) rfl #[.int .i64 a0_3, .int .i64 a0_1, .int .i64 250] (by rfl) rfl rfl mS ?_
    with_reducible refine (store_in.calls a0_3 a0_1 250 t156 _ A9.out).mono ?_
    rintro e w' ⟨rfl, ⟨nd, rfl⟩⟩
    refine ⟨_, rfl, ?_⟩
    refine hK.out _ _ (bC5 BK151.out) (fun hHeld => ?_)
    clear hK K
    refine norm_ (a' := ?_) ?_ ?_
    rotate_left
    ·show Act.put _ (some 24) _ = _
     simp only [Act.put, List.setIfInBounds_toArray, List.set_cons_zero, List.set_cons_succ, i64_w, i32_w]
     rfl
    refine pure_ (i := 22) (N := some 25) (v := ?_) (a' := ?_) #[true, true, true, true, true, true, true, true, true, true, true, true, true, true, true, true, true, true, true, true, true, true, true, false] rfl rfl (any_of HT_.out (by kernel_rfl)) (fun _ _ _ h => h) (Or.inl ⟨by rfl, ?_⟩) ?_ ?_
    rotate_left
    ·intro w'
     go_simp
     with_reducible rfl
    rotate_left
    ·exact mP
    refine pure_ (i := 23) (N := some 2) (v := ?_) (a' := ?_) #[true, true, true, true, true, true, true, true, true, true, true, true, true, true, true, true, true, true, true, true, true, true, true, true] rfl rfl (any_of HT_.out (by kernel_rfl)) (fun _ _ _ h => h) (Or.inl ⟨by rfl, ?_⟩) ?_ ?_
    rotate_left
    ·intro w'
     go_simp
     with_reducible rfl
    rotate_left
    ·exact mP
    refine done_ (done_of HT_.out (by kernel_rfl)) ?_
    try go_wp2
    go_ret
    exact ⟨by first | rfl | (simp [errW_none, errW_some] <;> rfl) | (simp [*, errW_none, errW_some] <;> rfl), by repeat (first | (with_reducible first | exact HB.out | apply below_alloc | apply pw_below_drewN | apply below_drew1 | refine below_set ?_ GE151.out) | exact HB.out)⟩
   ·replace c8 := Bool.eq_false_iff.mpr c8
    subst c8
    have H1 : (some false) = some r := by rw [if_neg (show ¬ (false = true) by decide)] at H; exact H
    clear H
    have H := H1
    clear H1
    obtain rfl := Option.some.inj H
    go_enter Try.func13, Try.ntmps13
    try go_wp2_with (first | ((with_reducible refine gate_dst (N := 1) rfl ?_); refine box_event ?hg (N := 1) ?hd (cs := #[.slice A0_0 l0_0.length c0_0, .int .i64 a0_1, .int .i64 a0_2, .int .i64 a0_3, .bool a0_4]) (t := 26) ?hr ?_; (case hd => rfl); (case hg => rfl); (case hr => first | (go_simp; done) | (go_simp; rfl)); intro gb151 hg w14 hbox hb; have n0_ := aA (below_step mB hb); have n1_ := aA (hbox); have n2_ := aA ((bZ hg mB)); have n3_ := aA ((bZ hg mB)); clear HB; have HB := n0_; have BK151 := n1_; have GW151 := n2_; have GE151 := n3_; clear n0_ n1_ n2_ n3_ hb hbox hg))
    have n0_ := aA (blk_drew BK151.out)
    have n1_ := aA (below_drew1 HB.out)
    clear BK151
    clear HB
    have BK151 := n0_
    have HB := n1_
    clear n0_ n1_
    refine start_ (n := 24) (S := fun w' => w'.cell? ⟨gb151, 0, none⟩ = some (.slice A0_0 l0_0.length c0_0) ∧ w'.cell? ⟨gb151, 1, none⟩ = some (.int .i64 a0_1) ∧ w'.cell? ⟨gb151, 2, none⟩ = some (.int .i64 a0_2) ∧ w'.cell? ⟨gb151, 3, none⟩ = some (.int .i64 a0_3) ∧ w'.cell? ⟨gb151, 4, none⟩ = some (.bool a0_4)) (ds := []) #[false, false, false, false, false, false, false, false, false, false, false, false, false, false, false, false, false, false, false, false, false, false, false, false] (by kernel_rfl) rfl rfl (bC5 BK151.out) (fun hHeld => ?_); refine with_tabW store_Right.tab1 store_Right.bits1 (fun HT_ HW_ => ?_)
    generalize w14.drew = w15 at BK151 HB hHeld ⊢
    refine pure_ (i := 0) (N := some 3) (v := ?_) (a' := ?_) #[true, false, false, false, false, false, false, false, false, false, false, false, false, false, false, false, false, false, false, false, false, false, false, false] rfl rfl (any_of HT_.out (by kernel_rfl)) (fun _ _ _ h => h) (Or.inl ⟨by rfl, ?_⟩) ?_ ?_
    rotate_left
    ·intro w'
     go_simp
     with_reducible rfl
    rotate_left
    ·exact mP
    refine take_ (i := 1) (N := some 4) (v := ?_) (a' := ?_) #[true, true, false, false, false, false, false, false, false, false, false, false, false, false, false, false, false, false, false, false, false, false, false, false] rfl rfl (take_ofW HT_.out HW_.out (by kernel_rfl)) (fun _ _ _ h => h) (Or.inl ⟨by rfl, ?_⟩) hHeld ?_ ?_
    rotate_left
    ·rintro w' ⟨s0, s1, s2, s3, s4⟩
     go_simp
     with_reducible rfl
    rotate_left
    ·exact mP
    refine one_ (i := 2) (N := some 5) #[true, true, true, false, false, false, false, false, false, false, false, false, false, false, false, false, false, false, false, false, false, false, false, false] rfl rfl (one_of HT_.out (by kernel_rfl)) (by decide) (fun K hK => ?_)
    refine goes_ Try.func35 (by kernel_rfl) rfl #[.agg #[.slice A0_0 l0_0.length c0_0]] (by rfl) rfl rfl mS ?_
    with_reducible refine (store_hasLog.calls _ _ l0_0 true _ ?side1 ?side2 A2.out).mono ?_
    (case side1 => exact mC ((Kd.C_below HR0_0.out HB.out)))
    (case side2 => exact HC0_0.out)
    rintro e w16 ⟨rfl, hb⟩
    refine ⟨_, rfl, ?_⟩
    have n0_ := aA (bB BK151.out hb)
    have n1_ := aA (below_step (mD1 GE151.out) hb)
    clear BK151
    clear HB
    have BK151 := n0_
    have HB := n1_
    clear n0_ n1_
    (try clear hb)
    (try clear hb2)
    (try clear hk)
    (try clear hi)
    refine hK.out _ _ (bC5 BK151.out) (fun hHeld => ?_)
    clear hK K
    refine norm_ (a' := ?_) ?_ ?_
    rotate_left
    ·show Act.put _ (some 5) _ = _
     simp only [Act.put, List.setIfInBounds_toArray, List.set_cons_zero, List.set_cons_succ, i64_w, i32_w]
     rfl
    refine pure_ (i := 3) (N := some 6) (v := ?_) (a' := ?_) #[true, true, true, true, false, false, false, false, false, false, false, false, false, false, false, false, false, false, false, false, false, false, false, false] rfl rfl (any_of HT_.out (by kernel_rfl)) (fun _ _ _ h => h) (Or.inl ⟨by rfl, ?_⟩) ?_ ?_
    rotate_left
    ·intro w'
     go_simp
     with_reducible rfl
    rotate_left
    ·exact mP
    refine pure_ (i := 4) (N := some 7) (v := ?_) (a' := ?_) #[true, true, true, true, true, false, false, false, false, false, false, false, false, false, false, false, false, false, false, false, false, false, false, false] rfl rfl (any_of HT_.out (by kernel_rfl)) (fun _ _ _ h => h) (Or.inl ⟨by rfl, ?_⟩) ?_ ?_
    rotate_left
    ·intro w'
     go_simp
     with_reducible rfl
    rotate_left
    ·exact mP
    refine take_ (i := 5) (N := some 8) (v := ?_) (a' := ?_) #[true, true, true, true, true, true, false, false, false, false, false, false, false, false, false, false, false, false, false, false, false, false, false, false] rfl rfl (take_ofW HT_.out HW_.out (by kernel_rfl)) (fun _ _ _ h => h) (Or.inl ⟨by rfl, ?_⟩) hHeld ?_ ?_
    rotate_left
    ·rintro w' ⟨s0, s1, s2, s3, s4⟩
     go_simp
     with_reducible rfl
    rotate_left
    ·exact mP
    refine one_ (i := 6) (N := some 9) #[true, true, true, true, true, true, true, false, false, false, false, false, false, false, false, false, false, false, false, false, false, false, false, false] rfl rfl (one_of HT_.out (by kernel_rfl)) (by decide) (fun K hK => ?_)
    refine goes_ Try.func39 (by kernel_rfl) rfl #[.int .i64 a0_1, .int .i64 1, .int .i64 250] (by rfl) rfl rfl mS ?_
    with_reducible refine (store_in.calls a0_1 1 250 true _ A4.out).mono ?_
    rintro e w' ⟨rfl, ⟨nd, rfl⟩⟩
    refine ⟨_, rfl, ?_⟩
    refine hK.out _ _ (bC5 BK151.out) (fun hHeld => ?_)
    clear hK K
    refine norm_ (a' := ?_) ?_ ?_
    rotate_left
    ·show Act.put _ (some 9) _ = _
     simp only [Act.put, List.setIfInBounds_toArray, List.set_cons_zero, List.set_cons_succ, i64_w, i32_w]
     rfl
    refine pure_ (i := 7) (N := some 10) (v := ?_) (a' := ?_) #[true, true, true, true, true, true, true, true, false, false, false, false, false, false, false, false, false, false, false, false, false, false, false, false] rfl rfl (any_of HT_.out (by kernel_rfl)) (fun _ _ _ h => h) (Or.inl ⟨by rfl, ?_⟩) ?_ ?_
    rotate_left
    ·intro w'
     go_simp
     with_reducible rfl
    rotate_left
    ·exact mP
    refine pure_ (i := 8) (N := some 11) (v := ?_) (a' := ?_) #[true, true, true, true, true, true, true, true, true, false, false, false, false, false, false, false, false, false, false, false, false, false, false, false] rfl rfl (any_of HT_.out (by kernel_rfl)) (fun _ _ _ h => h) (Or.inl ⟨by rfl, ?_⟩) ?_ ?_
    rotate_left
    ·intro w'
     go_simp
     with_reducible rfl
    rotate_left
    ·exact mP
    refine pure_ (i := 9) (N := some 12) (v := ?_) (a' := ?_) #[true, true, true, true, true, true, true, true, true, true, false, false, false, false, false, false, false, false, false, false, false, false, false, false] rfl rfl (any_of HT_.out (by kernel_rfl)) (fun _ _ _ h => h) (Or.inl ⟨by rfl, ?_⟩) ?_ ?_
    rotate_left
    ·intro w'
     go_simp
     with_reducible rfl
    rotate_left
    ·exact mP
    refine pure_ (i := 11) (N := some 14) (v := ?_) (a' := ?_) #[true, true, true, true, true, true, true, true, true, true, false, true, false, false, false, false, false, false, false, false, false, false, false, false] rfl rfl (any_of HT_.out (by kernel_rfl)) (fun _ _ _ h => h) (Or.inl ⟨by rfl, ?_⟩) ?_ ?_
    rotate_left
    ·intro w'
     go_simp
     with_reducible rfl
    rotate_left
    ·exact mP
    refine take_ (i := 10) (N := some 13) (v := ?_) (a' := ?_) #[true, true, true, true, true, true, true, true, true, true, true, true, false, false, false, false, false, false, false, false, false, false, false, false] rfl rfl (take_ofW HT_.out HW_.out (by kernel_rfl)) (fun _ _ _ h => h) (Or.inl ⟨by rfl, ?_⟩) hHeld ?_ ?_
    rotate_left
    ·rintro w' ⟨s0, s1, s2, s3, s4⟩
     go_simp
     with_reducible rfl
    rotate_left
    ·exact mP
    refine take_ (i := 12) (N := some 15) (v := ?_) (a' := ?_) #[true, true, true, true, true, true, true, true, true, true, true, true, true, false, false, false, false, false, false, false, false, false, false, false] rfl rfl (take_ofW HT_.out HW_.out (by kernel_rfl)) (fun _ _ _ h => h) (Or.inl ⟨by rfl, ?_⟩) hHeld ?_ ?_
    rotate_left
    ·rintro w' ⟨s0, s1, s2, s3, s4⟩
     go_simp
     with_reducible rfl
    rotate_left
    ·exact mP
    refine one_ (i := 13) (N := some 16) #[true, true, true, true, true, true, true, true, true, true, true, true, true, true, false, false, false, false, false, false, false, false, false, false] rfl rfl (one_of HT_.out (by kernel_rfl)) (by decide) (fun K hK => ?_)
    refine goes_ Try.func37 (by kernel_rfl) rfl #[.agg #[.slice A0_0 l0_0.length c0_0]] (by rfl) rfl rfl mS ?_
    with_reducible refine (store_area.calls _ _ l0_0 t154 _ ?side1 ?side2 A6.out).mono ?_
    (case side1 => exact mC ((Kd.C_below HR0_0.out (mD1 GE151.out))))
    (case side2 => exact HC0_0.out)
    rintro e w17 ⟨rfl, hb⟩
    refine ⟨_, rfl, ?_⟩
    have n0_ := aA (bB BK151.out hb)
    have n1_ := aA (below_step (mD1 GE151.out) hb)
    clear BK151
    clear HB
    have BK151 := n0_
    have HB := n1_
    clear n0_ n1_
    (try clear hb)
    (try clear hb2)
    (try clear hk)
    (try clear hi)
    refine hK.out _ _ (bC5 BK151.out) (fun hHeld => ?_)
    clear hK K
    refine norm_ (a' := ?_) ?_ ?_
    rotate_left
    ·show Act.put _ (some 16) _ = _
     simp only [Act.put, List.setIfInBounds_toArray, List.set_cons_zero, List.set_cons_succ, i64_w, i32_w]
     rfl
    refine one_ (i := 14) (N := some 17) #[true, true, true, true, true, true, true, true, true, true, true, true, true, true, true, false, false, false, false, false, false, false, false, false] rfl rfl (one_of HT_.out (by kernel_rfl)) (by decide) (fun K hK => ?_)
    refine goes_ Try.func39 (by kernel_rfl) rfl #[.int .i64 a0_2, .int .i64 0, .int .i64 t154] (by rfl) rfl rfl mS ?_
    with_reducible refine (store_in.calls a0_2 0 t154 false _ A7.out).mono ?_
    rintro e w' ⟨rfl, ⟨nd, rfl⟩⟩
    refine ⟨_, rfl, ?_⟩
    refine hK.out _ _ (bC5 BK151.out) (fun hHeld => ?_)
    clear hK K
    refine norm_ (a' := ?_) ?_ ?_
    rotate_left
    ·show Act.put _ (some 17) _ = _
     simp only [Act.put, List.setIfInBounds_toArray, List.set_cons_zero, List.set_cons_succ, i64_w, i32_w]
     rfl
    refine pure_ (i := 15) (N := some 18) (v := ?_) (a' := ?_) #[true, true, true, true, true, true, true, true, true, true, true, true, true, true, true, true, false, false, false, false, false, false, false, false] rfl rfl (any_of HT_.out (by kernel_rfl)) (fun _ _ _ h => h) (Or.inl ⟨by rfl, ?_⟩) ?_ ?_
    rotate_left
    ·intro w'
     go_simp
     with_reducible rfl
    rotate_left
    ·exact mP
    refine pure_ (i := 16) (N := some 19) (v := ?_) (a' := ?_) #[true, true, true, true, true, true, true, true, true, true, true, true, true, true, true, true, true, false, false, false, false, false, false, false] rfl rfl (any_of HT_.out (by kernel_rfl)) (fun _ _ _ h => h) (Or.inl ⟨by rfl, ?_⟩) ?_ ?_
    rotate_left
    ·intro w'
     go_simp
     with_reducible rfl
    rotate_left
    ·exact mP
    refine pure_ (i := 17) (N := some 20) (v := undef) (a' := ?_) #[true, true, true, true, true, true, true, true, true, true, true, true, true, true, true, true, true, true, false, false, false, false, false, false] rfl rfl (any_of HT_.out (by kernel_rfl)) (fun _ _ _ h => h) (Or.inr ⟨by rfl, rfl⟩) ?_ ?_
    rotate_left
    ·exact mP
    refine pure_ (i := 18) (N := some 21) (v := undef) (a' := ?_) #[true, true, true, true, true, true, true, true, true, true, true, true, true, true, true, true, true, true, true, false, false, false, false, false] rfl rfl (any_of HT_.out (by kernel_rfl)) (fun _ _ _ h => h) (Or.inr ⟨by rfl, rfl⟩) ?_ ?_
    rotate_left
    ·exact mP
    refine pure_ (i := 19) (N := some 22) (v := undef) (a' := ?_) #[true, true, true, true, true, true, true, true, true, true, true, true, true, true, true, true, true, true, true, true, false, false, false, false] rfl rfl (any_of HT_.out (by kernel_rfl)) (fun _ _ _ h => h) (Or.inr ⟨by rfl, rfl⟩) ?_ ?_
    rotate_left
    ·exact mP
    refine pure_ (i := 20) (N := some 23) (v := undef) (a' := ?_) #[true, true, true, true, true, true, true, true, true, true, true, true, true, true, true, true, true, true, true, true, true, false, false, false] rfl rfl (any_of HT_.out (by kernel_rfl)) (fun _ _ _ h => h) (Or.inr ⟨by rfl, rfl⟩) ?_ ?_
    rotate_left
    ·exact mP
    refine pure_ (i := 21) (N := some 24) (v := undef) (a' := ?_) #[true, true, true, true, true, true, true, true, true, true, true, true, true, true, true, true, true, true, true, true, true, true, false, false] rfl rfl (any_of HT_.out (by kernel_rfl)) (fun _ _ _ h => h) (Or.inr ⟨by rfl, rfl⟩) ?_ ?_
    rotate_left
    ·exact mP
    refine pure_ (i := 22) (N := some 25) (v := ?_) (a' := ?_) #[true, true, true, true, true, true, true, true, true, true, true, true, true, true, true, true, true, true, true, true, true, true, true, false] rfl rfl (any_of HT_.out (by kernel_rfl)) (fun _ _ _ h => h) (Or.inl ⟨by rfl, ?_⟩) ?_ ?_
    rotate_left
    ·intro w'
     go_simp
     with_reducible rfl
    rotate_left
    ·exact mP
    refine pure_ (i := 23) (N := some 2) (v := ?_) (a' := ?_) #[true, true, true, true, true, true, true, true, true, true, true, true, true, true, true, true, true, true, true, true, true, true, true, true] rfl rfl (any_of HT_.out (by kernel_rfl)) (fun _ _ _ h => h) (Or.inl ⟨by rfl, ?_⟩) ?_ ?_
    rotate_left
    ·intro w'
     go_simp
     with_reducible rfl
    rotate_left
    ·exact mP
    refine done_ (done_of HT_.out (by kernel_rfl)) ?_
    try go_wp2
    go_ret
    exact ⟨by first | rfl | (simp [errW_none, errW_some] <;> rfl) | (simp [*, errW_none, errW_some] <;> rfl), by repeat (first | (with_reducible first | exact HB.out | apply below_alloc | apply pw_below_drewN | apply below_drew1 | refine below_set ?_ GE151.out) | exact HB.out)⟩
  ·replace c5 := Bool.eq_false_iff.mpr c5
   subst c5
   have H1 : (some false) = some r := by rw [if_neg (show ¬ (false = true) by decide)] at H; exact H
   clear H
   have H := H1
   clear H1
   obtain rfl := Option.some.inj H
   go_enter Try.func13, Try.ntmps13
   try go_wp2_with (first | ((with_reducible refine gate_dst (N := 1) rfl ?_); refine box_event ?hg (N := 1) ?hd (cs := #[.slice A0_0 l0_0.length c0_0, .int .i64 a0_1, .int .i64 a0_2, .int .i64 a0_3, .bool a0_4]) (t := 26) ?hr ?_; (case hd => rfl); (case hg => rfl); (case hr => first | (go_simp; done) | (go_simp; rfl)); intro gb151 hg w18 hbox hb; have n0_ := aA (below_step mB hb); have n1_ := aA (hbox); have n2_ := aA ((bZ hg mB)); have n3_ := aA ((bZ hg mB)); clear HB; have HB := n0_; have BK151 := n1_; have GW151 := n2_; have GE151 := n3_; clear n0_ n1_ n2_ n3_ hb hbox hg))
   have n0_ := aA (blk_drew BK151.out)
   have n1_ := aA (below_drew1 HB.out)
   clear BK151
   clear HB
   have BK151 := n0_
   have HB := n1_
   clear n0_ n1_
   refine start_ (n := 24) (S := fun w' => w'.cell? ⟨gb151, 0, none⟩ = some (.slice A0_0 l0_0.length c0_0) ∧ w'.cell? ⟨gb151, 1, none⟩ = some (.int .i64 a0_1) ∧ w'.cell? ⟨gb151, 2, none⟩ = some (.int .i64 a0_2) ∧ w'.cell? ⟨gb151, 3, none⟩ = some (.int .i64 a0_3) ∧ w'.cell? ⟨gb151, 4, none⟩ = some (.bool a0_4)) (ds := []) #[false, false, false, false, false, false, false, false, false, false, false, false, false, false, false, false, false, false, false, false, false, false, false, false] (by kernel_rfl) rfl rfl (bC5 BK151.out) (fun hHeld => ?_); refine with_tabW store_Right.tab1 store_Right.bits1 (fun HT_ HW_ => ?_)
   generalize w18.drew = w19 at BK151 HB hHeld ⊢
   refine pure_ (i := 0) (N := some 3) (v := ?_) (a' := ?_) #[true, false, false, false, false, false, false, false, false, false, false, false, false, false, false, false, false, false, false, false, false, false, false, false] rfl rfl (any_of HT_.out (by kernel_rfl)) (fun _ _ _ h => h) (Or.inl ⟨by rfl, ?_⟩) ?_ ?_
   rotate_left
   ·intro w'
    go_simp
    with_reducible rfl
   rotate_left
   ·exact mP
   refine take_ (i := 1) (N := some 4) (v := ?_) (a' := ?_) #[true, true, false, false, false, false, false, false, false, false, false, false, false, false, false, false, false, false, false, false, false, false, false, false] rfl rfl (take_ofW HT_.out HW_.out (by kernel_rfl)) (fun _ _ _ h => h) (Or.inl ⟨by rfl, ?_⟩) hHeld ?_ ?_
   rotate_left
   ·rintro w' ⟨s0, s1, s2, s3, s4⟩
    go_simp
    with_reducible rfl
   rotate_left
   ·exact mP
   refine one_ (i := 2) (N := some 5) #[true, true, true, false, false, false, false, false, false, false, false, false, false, false, false, false, false, false, false, false, false, false, false, false] rfl rfl (one_of HT_.out (by kernel_rfl)) (by decide) (fun K hK => ?_)
   refine goes_ Try.func35 (by kernel_rfl) rfl #[.agg #[.slice A0_0 l0_0.length c0_0]] (by rfl) rfl rfl mS ?_
   with_reducible refine (store_hasLog.calls _ _ l0_0 true _ ?side1 ?side2 A2.out).mono ?_
   (case side1 => exact mC ((Kd.C_below HR0_0.out HB.out)))
   (case side2 => exact HC0_0.out)
   rintro e w20 ⟨rfl, hb⟩
   refine ⟨_, rfl, ?_⟩
   have n0_ := aA (bB BK151.out hb)
   have n1_ := aA (below_step (mD1 GE151.out) hb)
   clear BK151
   clear HB
   have BK151 := n0_
   have HB := n1_
   clear n0_ n1_
   (try clear hb)
   (try clear hb2)
   (try clear hk)
   (try clear hi)
   refine hK.out _ _ (bC5 BK151.out) (fun hHeld => ?_)
   clear hK K
   refine norm_ (a' := ?_) ?_ ?_
   rotate_left
   ·show Act.put _ (some 5) _ = _
    simp only [Act.put, List.setIfInBounds_toArray, List.set_cons_zero, List.set_cons_succ, i64_w, i32_w]
    rfl
   refine pure_ (i := 3) (N := some 6) (v := ?_) (a' := ?_) #[true, true, true, true, false, false, false, false, false, false, false, false, false, false, false, false, false, false, false, false, false, false, false, false] rfl rfl (any_of HT_.out (by kernel_rfl)) (fun _ _ _ h => h) (Or.inl ⟨by rfl, ?_⟩) ?_ ?_
   rotate_left
   ·intro w'
    go_simp
    with_reducible rfl
   rotate_left
   ·exact mP
   refine pure_ (i := 4) (N := some 7) (v := ?_) (a' := ?_) #[true, true, true, true, true, false, false, false, false, false, false, false, false, false, false, false, false, false, false, false, false, false, false, false] rfl rfl (any_of HT_.out (by kernel_rfl)) (fun _ _ _ h => h) (Or.inl ⟨by rfl, ?_⟩) ?_ ?_
   rotate_left
   ·intro w'
    go_simp
    with_reducible rfl
   rotate_left
   ·exact mP
   refine take_ (i := 5) (N := some 8) (v := ?_) (a' := ?_) #[true, true, true, true, true, true, false, false, false, false, false, false, false, false, false, false, false, false, false, false, false, false, false, false] rfl rfl (take_ofW HT_.out HW_.out (by kernel_rfl)) (fun _ _ _ h => h) (Or.inl ⟨by rfl, ?_⟩) hHeld ?_ ?_
   rotate_left
   ·rintro w' ⟨s0, s1, s2, s3, s4⟩
    go_simp
    with_reducible rfl
   rotate_left
   ·exact mP
   refine one_ (i := 6) (N := some 9) #[true, true, true, true, true, true, true, false, false, false, false, false, false, false, false, false, false, false, false, false, false, false, false, false] rfl rfl (one_of HT_.out (by kernel_rfl)) (by decide) (fun K hK => ?_)
   refine goes_ Try.func39 (by kernel_rfl) rfl #[.int .i64 a0_1, .int .i64 1, .int .i64 250] (by rfl) rfl rfl mS ?_
   with_reducible refine (store_in.calls a0_1 1 250 false _ A4.out).mono ?_
   rintro e w' ⟨rfl, ⟨nd, rfl⟩⟩
   refine ⟨_, rfl, ?_⟩
   refine hK.out _ _ (bC5 BK151.out) (fun hHeld => ?_)
   clear hK K
   refine norm_ (a' := ?_) ?_ ?_
   rotate_left
   ·show Act.put _ (some 9) _ = _
    simp only [Act.put, List.setIfInBounds_toArray, List.set_cons_zero, List.set_cons_succ, i64_w, i32_w]
    rfl
   refine pure_ (i := 7) (N := some 10) (v := ?_) (a' := ?_) #[true, true, true, true, true, true, true, true, false, false, false, false, false, false, false, false, false, false, false, false, false, false, false, false] rfl rfl (any_of HT_.out (by kernel_rfl)) (fun _ _ _ h => h) (Or.inl ⟨by rfl, ?_⟩) ?_ ?_
   rotate_left
   ·intro w'
    go_simp
    with_reducible rfl
   rotate_left
   ·exact mP
   refine pure_ (i := 8) (N := some 11) (v := ?_) (a' := ?_) #[true, true, true, true, true, true, true, true, true, false, false, false, false, false, false, false, false, false, false, false, false, false, false, false] rfl rfl (any_of HT_.out (by kernel_rfl)) (fun _ _ _ h => h) (Or.inl ⟨by rfl, ?_⟩) ?_ ?_
   rotate_left
   ·intro w'
    go_simp
    with_reducible rfl
   rotate_left
   ·exact mP
   refine pure_ (i := 9) (N := some 12) (v := undef) (a' := ?_) #[true, true, true, true, true, true, true, true, true, true, false, false, false, false, false, false, false, false, false, false, false, false, false, false] rfl rfl (any_of HT_.out (by kernel_rfl)) (fun _ _ _ h => h) (Or.inr ⟨by rfl, rfl⟩) ?_ ?_
   rotate_left
   ·exact mP
   refine pure_ (i := 10) (N := some 13) (v := undef) (a' := ?_) #[true, true, true, true, true, true, true, true, true, true, true, false, false, false, false, false, false, false, false, false, false, false, false, false] rfl rfl (any_of HT_.out (by kernel_rfl)) (fun _ _ _ h => h) (Or.inr ⟨by rfl, rfl⟩) ?_ ?_
   rotate_left
   ·exact mP
   refine pure_ (i := 11) (N := some 14) (v := undef) (a' := ?_) #[true, true, true, true, true, true, true, true, true, true, true, true, false, false, false, false, false, false, false, false, false, false, false, false] rfl rfl (any_of HT_.out (by kernel_rfl)) (fun _ _ _ h => h) (Or.inr ⟨by rfl, rfl⟩) ?_ ?_
   rotate_left
   ·exact mP
   refine pure_ (i := 12) (N := some 15) (v := undef) (a' := ?_) #[true, true, true, true, true, true, true, true, true, true, true, true, true, false, false, false, false, false, false, false, false, false, false, false] rfl rfl (any_of HT_.out (by kernel_rfl)) (fun _ _ _ h => h) (Or.inr ⟨by rfl, rfl⟩) ?_ ?_
   rotate_left
   ·exact mP
   refine pure_ (i := 13) (N := some 16) (v := undef) (a' := ?_) #[true, true, true, true, true, true, true, true, true, true, true, true, true, true, false, false, false, false, false, false, false, false, false, false] rfl rfl (any_of HT_.out (by kernel_rfl)) (fun _ _ _ h => h) (Or.inr ⟨by rfl, rfl⟩) ?_ ?_
   rotate_left
   ·exact mP
   refine pure_ (i := 14) (N := some 17) (v := undef) (a' := ?_) #[true, true, true, true, true, true, true, true, true, true, true, true, true, true, true, false, false, false, false, false, false, false, false, false] rfl rfl (any_of HT_.out (by kernel_rfl)) (fun _ _ _ h => h) (Or.inr ⟨by rfl, rfl⟩) ?_ ?_
   rotate_left
   ·exact mP
   refine pure_ (i := 15) (N := some 18) (v := ?_) (a' := ?_) #[true, true, true, true, true, true, true, true, true, true, true, true, true, true, true, true, false, false, false, false, false, false, false, false] rfl rfl (any_of HT_.out (by kernel_rfl)) (fun _ _ _ h => h) (Or.inl ⟨by rfl, ?_⟩) ?_ ?_
   rotate_left
   ·intro w'
    go_simp
    with_reducible rfl
   rotate_left
   ·exact mP
   refine pure_ (i := 16) (N := some 19) (v := ?_) (a' := ?_) #[true, true, true, true, true, true, true, true, true, true, true, true, true, true, true, true, true, false, false, false, false, false, false, false] rfl rfl (any_of HT_.out (by kernel_rfl)) (fun _ _ _ h => h) (Or.inl ⟨by rfl, ?_⟩) ?_ ?_
   rotate_left
   ·intro w'
    go_simp
    with_reducible rfl
   rotate_left
   ·exact mP
   refine pure_ (i := 17) (N := some 20) (v := undef) (a' := ?_) #[true, true, true, true, true, true, true, true, true, true, true, true, true, true, true, true, true, true, false, false, false, false, false, false] rfl rfl (any_of HT_.out (by kernel_rfl)) (fun _ _ _ h => h) (Or.inr ⟨by rfl, rfl⟩) ?_ ?_
   rotate_left
   ·exact mP
   refine pure_ (i := 18) (N := some 21) (v := undef) (a' := ?_) #[true, true, true, true, true, true, true, true, true, true, true, true, true, true, true, true, true, true, true, false, false, false, false, false] rfl rfl (any_of HT_.out (by kernel_rfl)) (fun _ _ _ h => h) (Or.inr ⟨by rfl, rfl⟩) ?_ ?_
   rotate_left
   ·exact mP
   refine pure_ (i := 19) (N := some 22) (v := undef) (a' := ?_) #[true, true, true, true, true, true, true, true, true, true, true, true, true, true, true, true, true, true, true, true, false, false, false, false] rfl rfl (any_of HT_.out (by kernel_rfl)) (fun _ _ _ h => h) (Or.inr ⟨by rfl, rfl⟩) ?_ ?_
   rotate_left
   ·exact mP
   refine pure_ (i := 20) (N := some 23) (v := undef) (a' := ?_) #[true, true, true, true, true, true, true, true, true, true, true, true, true, true, true, true, true, true, true, true, true, false, false, false] rfl rfl (any_of HT_.out (by kernel_rfl)) (fun _ _ _ h => h) (Or.inr ⟨by rfl, rfl⟩) ?_ ?_
   rotate_left
   ·exact mP
   refine pure_ (i := 21) (N := some 24) (v := undef) (a' := ?_) #[true, true, true, true, true, true, true, true, true, true, true, true, true, true, true, true, true, true, true, true, true, true, false, false] rfl rfl (any_of HT_.out (by kernel_rfl)) (fun _ _ _ h => h) (Or.inr ⟨by rfl, rfl⟩) ?_ ?_
   rotate_left
   ·exact mP
   refine pure_ (i := 22) (N := some 25) (v := ?_) (a' := ?_) #[true, true, true, true, true, true, true, true, true, true, true, true, true, true, true, true, true, true, true, true, true, true, true, false] rfl rfl (any_of HT_.out (by kernel_rfl)) (fun _ _ _ h => h) (Or.inl ⟨by rfl, ?_⟩) ?_ ?_
   rotate_left
   ·intro w'
    go_simp
    with_reducible rfl
   rotate_left
   ·exact mP
   refine pure_ (i := 23) (N := some 2) (v := ?_) (a' := ?_) #[true, true, true, true, true, true, true, true, true, true, true, true, true, true, true, true, true, true, true, true, true, true, true, true] rfl rfl (any_of HT_.out (by kernel_rfl)) (fun _ _ _ h => h) (Or.inl ⟨by rfl, ?_⟩) ?_ ?_
   rotate_left
   ·intro w'
    go_simp
    with_reducible rfl
   rotate_left
   ·exact mP
   refine done_ (done_of HT_.out (by kernel_rfl)) ?_
   try go_wp2
   go_ret
   exact ⟨by first | rfl | (simp [errW_none, errW_some] <;> rfl) | (simp [*, errW_none, errW_some] <;> rfl), by repeat (first | (with_reducible first | exact HB.out | apply below_alloc | apply pw_below_drewN | apply below_drew1 | refine below_set ?_ GE151.out) | exact HB.out)⟩
 ·replace c3 := Bool.eq_false_iff.mpr c3
  subst c3
  have H1 : (some false) = some r := by rw [if_neg (show ¬ (false = true) by decide)] at H; exact H
  clear H
  have H := H1
  clear H1
  obtain rfl := Option.some.inj H
  go_enter Try.func13, Try.ntmps13
  try go_wp2_with (first | ((with_reducible refine gate_dst (N := 1) rfl ?_); refine box_event ?hg (N := 1) ?hd (cs := #[.slice A0_0 l0_0.length c0_0, .int .i64 a0_1, .int .i64 a0_2, .int .i64 a0_3, .bool a0_4]) (t := 26) ?hr ?_; (case hd => rfl); (case hg => rfl); (case hr => first | (go_simp; done) | (go_simp; rfl)); intro gb151 hg w21 hbox hb; have n0_ := aA (below_step mB hb); have n1_ := aA (hbox); have n2_ := aA ((bZ hg mB)); have n3_ := aA ((bZ hg mB)); clear HB; have HB := n0_; have BK151 := n1_; have GW151 := n2_; have GE151 := n3_; clear n0_ n1_ n2_ n3_ hb hbox hg))
  have n0_ := aA (blk_drew BK151.out)
  have n1_ := aA (below_drew1 HB.out)
  clear BK151
  clear HB
  have BK151 := n0_
  have HB := n1_
  clear n0_ n1_
  refine start_ (n := 24) (S := fun w' => w'.cell? ⟨gb151, 0, none⟩ = some (.slice A0_0 l0_0.length c0_0) ∧ w'.cell? ⟨gb151, 1, none⟩ = some (.int .i64 a0_1) ∧ w'.cell? ⟨gb151, 2, none⟩ = some (.int .i64 a0_2) ∧ w'.cell? ⟨gb151, 3, none⟩ = some (.int .i64 a0_3) ∧ w'.cell? ⟨gb151, 4, none⟩ = some (.bool a0_4)) (ds := []) #[false, false, false, false, false, false, false, false, false, false, false, false, false, false, false, false, false, false, false, false, false, false, false, false] (by kernel_rfl) rfl rfl (bC5 BK151.out) (fun hHeld => ?_); refine with_tabW store_Right.tab1 store_Right.bits1 (fun HT_ HW_ => ?_)
  generalize w21.drew = w22 at BK151 HB hHeld ⊢
  refine pure_ (i := 0) (N := some 3) (v := ?_) (a' := ?_) #[true, false, false, false, false, false, false, false, false, false, false, false, false, false, false, false, false, false, false, false, false, false, false, false] rfl rfl (any_of HT_.out (by kernel_rfl)) (fun _ _ _ h => h) (Or.inl ⟨by rfl, ?_⟩) ?_ ?_
  rotate_left
  ·intro w'
   go_simp
   with_reducible rfl
  rotate_left
  ·exact mP
  refine take_ (i := 1) (N := some 4) (v := ?_) (a' := ?_) #[true, true, false, false, false, false, false, false, false, false, false, false, false, false, false, false, false, false, false, false, false, false, false, false] rfl rfl (take_ofW HT_.out HW_.out (by kernel_rfl)) (fun _ _ _ h => h) (Or.inl ⟨by rfl, ?_⟩) hHeld ?_ ?_
  rotate_left
  ·rintro w' ⟨s0, s1, s2, s3, s4⟩
   go_simp
   with_reducible rfl
  rotate_left
  ·exact mP
  refine one_ (i := 2) (N := some 5) #[true, true, true, false, false, false, false, false, false, false, false, false, false, false, false, false, false, false, false, false, false, false, false, false] rfl rfl (one_of HT_.out (by kernel_rfl)) (by decide) (fun K hK => ?_)
  refine goes_ Try.func35 (by kernel_rfl) rfl #[.agg #[.slice A0_0 l0_0.length c0_0]] (by rfl) rfl rfl mS ?_
  with_reducible refine (store_hasLog.calls _ _ l0_0 false _ ?side1 ?side2 A2.out).mono ?_
  (case side1 => exact mC ((Kd.C_below HR0_0.out HB.out)))
  (case side2 => exact HC0_0.out)
  rintro e w23 ⟨rfl, hb⟩
  refine ⟨_, rfl, ?_⟩
  have n0_ := aA (bB BK151.out hb)
  have n1_ := aA (below_step (mD1 GE151.out) hb)
  clear BK151
  clear HB
  have BK151 := n0_
  have HB := n1_
  clear n0_ n1_
  (try clear hb)
  (try clear hb2)
  (try clear hk)
  (try clear hi)
  refine hK.out _ _ (bC5 BK151.out) (fun hHeld => ?_)
  clear hK K
  refine norm_ (a' := ?_) ?_ ?_
  rotate_left
  ·show Act.put _ (some 5) _ = _
   simp only [Act.put, List.setIfInBounds_toArray, List.set_cons_zero, List.set_cons_succ, i64_w, i32_w]
   rfl
  refine pure_ (i := 3) (N := some 6) (v := ?_) (a' := ?_) #[true, true, true, true, false, false, false, false, false, false, false, false, false, false, false, false, false, false, false, false, false, false, false, false] rfl rfl (any_of HT_.out (by kernel_rfl)) (fun _ _ _ h => h) (Or.inl ⟨by rfl, ?_⟩) ?_ ?_
  rotate_left
  ·intro w'
   go_simp
   with_reducible rfl
  rotate_left
  ·exact mP
  refine pure_ (i := 4) (N := some 7) (v := undef) (a' := ?_) #[true, true, true, true, true, false, false, false, false, false, false, false, false, false, false, false, false, false, false, false, false, false, false, false] rfl rfl (any_of HT_.out (by kernel_rfl)) (fun _ _ _ h => h) (Or.inr ⟨by rfl, rfl⟩) ?_ ?_
  rotate_left
  ·exact mP
  refine pure_ (i := 5) (N := some 8) (v := undef) (a' := ?_) #[true, true, true, true, true, true, false, false, false, false, false, false, false, false, false, false, false, false, false, false, false, false, false, false] rfl rfl (any_of HT_.out (by kernel_rfl)) (fun _ _ _ h => h) (Or.inr ⟨by rfl, rfl⟩) ?_ ?_
  rotate_left
  ·exact mP
  refine pure_ (i := 6) (N := some 9) (v := undef) (a' := ?_) #[true, true, true, true, true, true, true, false, false, false, false, false, false, false, false, false, false, false, false, false, false, false, false, false] rfl rfl (any_of HT_.out (by kernel_rfl)) (fun _ _ _ h => h) (Or.inr ⟨by rfl, rfl⟩) ?_ ?_
  rotate_left
  ·exact mP
  refine pure_ (i := 7) (N := some 10) (v := ?_) (a' := ?_) #[true, true, true, true, true, true, true, true, false, false, false, false, false, false, false, false, false, false, false, false, false, false, false, false] rfl rfl (any_of HT_.out (by kernel_rfl)) (fun _ _ _ h => h) (Or.inl ⟨by rfl, ?_⟩) ?_ ?_
  rotate_left
  ·intro w'
   go_simp
   with_reducible rfl
  rotate_left
  ·exact mP
  refine pure_ (i := 8) (N := some 11) (v := ?_) (a' := ?_) #[true, true, true, true, true, true, true, true, true, false, false, false, false, false, false, false, false, false, false, false, false, false, false, false] rfl rfl (any_of HT_.out (by kernel_rfl)) (fun _ _ _ h => h) (Or.inl ⟨by rfl, ?_⟩) ?_ ?_
  rotate_left
  ·intro w'
   go_simp
   with_reducible rfl
  rotate_left
  ·exact mP
  refine pure_ (i := 9) (N := some 12) (v := undef) (a' := ?_) #[true, true, true, true, true, true, true, true, true, true, false, false, false, false, false, false, false, false, false, false, false, false, false, false] rfl rfl (any_of HT_.out (by kernel_rfl)) (fun _ _ _ h => h) (Or.inr ⟨by rfl, rfl⟩) ?_ ?_
  rotate_left
  ·exact mP
  refine pure_ (i := 10) (N := some 13) (v := undef) (a' := ?_) #[true, true, true, true, true, true, true, true, true, true, true, false, false, false, false, false, false, false, false, false, false, false, false, false] rfl rfl (any_of HT_.out (by kernel_rfl)) (fun _ _ _ h => h) (Or.inr ⟨by rfl, rfl⟩) ?_ ?_
  rotate_left
  ·exact mP
  refine pure_ (i := 11) (N := some 14) (v := undef) (a' := ?_) #[true, true, true, true, true, true, true, true, true, true, true, true, false, false, false, false, false, false, false, false, false, false, false, false] rfl rfl (any_of HT_.out (by kernel_rfl)) (fun _ _ _ h => h) (Or.inr ⟨by rfl, rfl⟩) ?_ ?_
  rotate_left
  ·exact mP
  refine pure_ (i := 12) (N := some 15) (v := undef) (a' := ?_) #[true, true, true, true, true, true, true, true, true, true, true, true, true, false, false, false, false, false, false, false, false, false, false, false] rfl rfl (any_of HT_.out (by kernel_rfl)) (fun _ _ _ h => h) (Or.inr ⟨by rfl, rfl⟩) ?_ ?_
  rotate_left
  ·exact mP
  refine pure_ (i := 13) (N := some 16) (v := undef) (a' := ?_) #[true, true, true, true, true, true, true, true, true, true, true, true, true, true, false, false, false, false, false, false, false, false, false, false] rfl rfl (any_of HT_.out (by kernel_rfl)) (fun _ _ _ h => h) (Or.inr ⟨by rfl, rfl⟩) ?_ ?_
  rotate_left
  ·exact mP
  refine pure_ (i := 14) (N := some 17) (v := undef) (a' := ?_) #[true, true, true, true, true, true, true, true, true, true, true, true, true, true, true, false, false, false, false, false, false, false, false, false] rfl rfl (any_of HT_.out (by kernel_rfl)) (fun _ _ _ h => h) (Or.inr ⟨by rfl, rfl⟩) ?_ ?_
  rotate_left
  ·exact mP
  refine pure_ (i := 15) (N := some 18) (v := ?_) (a' := ?_) #[true, true, true, true, true, true, true, true, true, true, true, true, true, true, true, true, false, false, false, false, false, false, false, false] rfl rfl (any_of HT_.out (by kernel_rfl)) (fun _ _ _ h => h) (Or.inl ⟨by rfl, ?_⟩) ?_ ?_
  rotate_left
  ·intro w'
   go_simp
   with_reducible rfl
  rotate_left
  ·exact mP
  refine pure_ (i := 16) (N := some 19) (v := ?_) (a' := ?_) #[true, true, true, true, true, true, true, true, true, true, true, true, true, true, true, true, true, false, false, false, false, false, false, false] rfl rfl (any_of HT_.out (by kernel_rfl)) (fun _ _ _ h => h) (Or.inl ⟨by rfl, ?_⟩) ?_ ?_
  rotate_left
  ·intro w'
   go_simp
   with_reducible rfl
  rotate_left
  ·exact mP
  refine pure_ (i := 17) (N := some 20) (v := undef) (a' := ?_) #[true, true, true, true, true, true, true, true, true, true, true, true, true, true, true, true, true, true, false, false, false, false, false, false] rfl rfl (any_of HT_.out (by kernel_rfl)) (fun _ _ _ h => h) (Or.inr ⟨by rfl, rfl⟩) ?_ ?_
  rotate_left
  ·exact mP
  refine pure_ (i := 18) (N := some 21) (v := undef) (a' := ?_) #[true, true, true, true, true, true, true, true, true, true, true, true, true, true, true, true, true, true, true, false, false, false, false, false] rfl rfl (any_of HT_.out (by kernel_rfl)) (fun _ _ _ h => h) (Or.inr ⟨by rfl, rfl⟩) ?_ ?_
  rotate_left
  ·exact mP
  refine pure_ (i := 19) (N := some 22) (v := undef) (a' := ?_) #[true, true, true, true, true, true, true, true, true, true, true, true, true, true, true, true, true, true, true, true, false, false, false, false] rfl rfl (any_of HT_.out (by kernel_rfl)) (fun _ _ _ h => h) (Or.inr ⟨by rfl, rfl⟩) ?_ ?_
  rotate_left
  ·exact mP
  refine pure_ (i := 20) (N := some 23) (v := undef) (a' := ?_) #[true, true, true, true, true, true, true, true, true, true, true, true, true, true, true, true, true, true, true, true, true, false, false, false] rfl rfl (any_of HT_.out (by kernel_rfl)) (fun _ _ _ h => h) (Or.inr ⟨by rfl, rfl⟩) ?_ ?_
  rotate_left
  ·exact mP
  refine pure_ (i := 21) (N := some 24) (v := undef) (a' := ?_) #[true, true, true, true, true, true, true, true, true, true, true, true, true, true, true, true, true, true, true, true, true, true, false, false] rfl rfl (any_of HT_.out (by kernel_rfl)) (fun _ _ _ h => h) (Or.inr ⟨by rfl, rfl⟩) ?_ ?_
  rotate_left
  ·exact mP
  refine pure_ (i := 22) (N := some 25) (v := ?_) (a' := ?_) #[true, true, true, true, true, true, true, true, true, true, true, true, true, true, true, true, true, true, true, true, true, true, true, false] rfl rfl (any_of HT_.out (by kernel_rfl)) (fun _ _ _ h => h) (Or.inl ⟨by rfl, ?_⟩) ?_ ?_
  rotate_left
  ·intro w'
   go_simp
   with_reducible rfl
  rotate_left
  ·exact mP
  refine pure_ (i := 23) (N := some 2) (v := ?_) (a' := ?_) #[true, true, true, true, true, true, true, true, true, true, true, true, true, true, true, true, true, true, true, true, true, true, true, true] rfl rfl (any_of HT_.out (by kernel_rfl)) (fun _ _ _ h => h) (Or.inl ⟨by rfl, ?_⟩) ?_ ?_
  rotate_left
  ·intro w'
   go_simp
   with_reducible rfl
  rotate_left
  ·exact mP
  refine done_ (done_of HT_.out (by kernel_rfl)) ?_
  try go_wp2
  go_ret
  exact ⟨by first | rfl | (simp [errW_none, errW_some] <;> rfl) | (simp [*, errW_none, errW_some] <;> rfl), by repeat (first | (with_reducible first | exact HB.out | apply below_alloc | apply pw_below_drewN | apply below_drew1 | refine below_set ?_ GE151.out) | exact HB.out)⟩
end Go.Proofs.YtopaddpclipnjaaQ.P
namespace Go.Proofs.Ytopaddpclipnjaa
open Go.RowKit
structure Flt where
  kind : Int
  k : Int
deriving DecidableEq
def fltC (x : Flt) : List Value := [.int .i64 x.kind, .int .i64 x.k]
def fltV (x : Flt) : Value := .agg #[.int .i64 x.kind, .int .i64 x.k]
def fltsC (xs : List Flt) : List Value := xs.flatMap fltC
theorem flts_get (xs : List Flt) (i : Nat) (h : i < xs.length) : (fltsC xs)[i * 2]? = some (.int .i64 xs[i].kind) ∧ (fltsC xs)[i * 2 + 1]? = some (.int .i64 xs[i].k) :=
  ⟨flat_get (en := fltC) (sz := 2) (fun _ => rfl) xs i 0 h (by omega), flat_get (en := fltC) (sz := 2) (fun _ => rfl) xs i 1 h (by omega)⟩
def fltB (x : Flt) : Bool := decide (0 ≤ x.kind) && decide (x.kind ≤ 2) && decide (0 ≤ x.k) && decide (x.k ≤ 128)
end Go.Proofs.Ytopaddpclipnjaa
namespace Go.Proofs.Ytopaddpclipnjaa
open Go.RowKit
attribute [local go_sem high] ext_size ext_cell ext_frozen alloc_cell alloc_frozen
def PredF (f : FuncId) (caps : Array Value) (w : World) (p : Flt → Bool) (xs : List Flt) : Prop :=
  ∀ x ∈ xs, ∀ W, Below w.heap.size w W → Calls Try.prog f (#[fltV x] ++ caps) W fun e W' => e = .returned (.bool (p x)) ∧ Below W.heap.size W W'
theorem indexFuncF (v : Value) (xs : List Flt) (f : FuncId) (caps : Array Value) (p : Flt → Bool) (w : World) (hS : SlAt w v 2 xs.length (fltsC xs)) (hp : PredF f caps w p xs) (hf : Enters Try.prog f) :
    Calls Try.prog 85 #[v, .func (.func f) #[] caps] w fun e w' => e = .returned (.int .i64 (idxOf p xs)) ∧ Below w.heap.size w w' := by
  obtain ⟨a, c, rfl, hnc, hcm⟩ := hS.form
  have hm := hS.le
  have HS := Lib.hid hS
  have HP := Lib.hid hp
  clear hS hp
  unfold maxLen at hm
  go_enter Try.func85, Try.ntmps85
  go_wp2
  go_loopw [5, 8] (fun _ i wr => ∃ k : Nat, k ≤ xs.length ∧ i = .int .i64 k ∧ (∀ j (hj : j < xs.length), j < k → p xs[j] = false) ∧ Below w.heap.size w wr) (fun _ i _ => xs.length - (intOf i).toNat)
  case atStart => exact ⟨0, Nat.zero_le _, rfl, fun j _ hj => absurd hj (by omega), Below.refl _ _⟩
  case round =>
    obtain ⟨k, hk, rfl, hno, hbel⟩ := hrel
    have HN := Lib.hid hno
    clear hno
    obtain ⟨xr, rfl⟩ := ext_of hbel
    by_cases hlt : k < xs.length
    · obtain ⟨b, o, rfl, hbl, hcell⟩ := HS.out.at (by omega)
      have hg := flts_get xs k hlt
      have hck0 : w.cell? ⟨b, o + k * 2, none⟩ = some (.int .i64 xs[k].kind) := by exact hcell _ _ hg.1
      have hck1 : w.cell? ⟨b, o + k * 2 + 1, none⟩ = some (.int .i64 xs[k].k) := by rw [Nat.add_assoc]; exact hcell _ _ hg.2
      clear hcell hg
      have hcall : Calls Try.prog f (#[Value.agg #[.int .i64 xs[k].kind, .int .i64 xs[k].k]] ++ caps) (ext w xr) fun e W' => e = .returned (.bool (p xs[k])) ∧ Below (ext w xr).heap.size (ext w xr) W' := HP.out xs[k] (List.getElem_mem hlt) (ext w xr) hbel
      have he := hf (#[Value.agg #[.int .i64 xs[k].kind, .int .i64 xs[k].k]] ++ caps) (ext w xr)
      cases hpx : p xs[k]
      all_goals
        rw [hpx] at hcall
        have HX := Lib.hid hpx
        have HC := Lib.hid hcall
        clear hpx hcall hbel
        go_wp2_with (refine Calls.mono HC.out ?_; rintro e w1 ⟨rfl, hb1⟩)
      · refine ⟨⟨k + 1, by omega, by go_num, fun j hj hjk => ?_, bel (ext_bel w xr) hb1⟩, by simp [intOf]; omega⟩
        rcases Nat.lt_succ_iff_lt_or_eq.1 hjk with h | rfl
        · exact HN.out j hj h
        · exact HX.out
      · go_ret
        exact ⟨ret_int (idxOf_found hlt HX.out fun j hj => HN.out j (by omega) hj).symm, bel (ext_bel w xr) hb1⟩
    · obtain rfl : k = xs.length := by omega
      go_wp2
      go_ret
      exact ⟨ret_int (idxOf_none fun j hj => HN.out j hj hj).symm, ext_bel w xr⟩
theorem containsFuncF (v : Value) (xs : List Flt) (f : FuncId) (caps : Array Value) (p : Flt → Bool) (w : World) (hS : SlAt w v 2 xs.length (fltsC xs)) (hp : PredF f caps w p xs) (hf : Enters Try.prog f) :
    Calls Try.prog 67 #[v, .func (.func f) #[] caps] w fun e w' => e = .returned (.bool (xs.any p)) ∧ Below w.heap.size w w' := by
  have hi := Lib.hid (idxOf_any p xs)
  have HI := Lib.hid (indexFuncF v xs f caps p w hS hp hf)
  obtain ⟨a, c, rfl, hnc, hcm⟩ := hS.form
  clear hp hS
  go_enter Try.func67, Try.ntmps67
  go_wp2_with fail
  refine HI.out.mono ?_
  rintro e w1 ⟨rfl, hb1⟩
  go_wp2
  go_ret
  exact ⟨ret_bool hi.out, hb1⟩
end Go.Proofs.Ytopaddpclipnjaa
namespace Go.Proofs.Ytopaddpclipnjaa
open Go.RowKit
abbrev stopV (k : Int) : Value := .iface 96 (.agg #[.int .i64 k])
theorem assert_yes (W : World) (v : Value) : (Instr.typeAssert (.iface 96 v) 20 96 true).run Try.prog W = .ok (.tuple #[v, .bool true]) W := by kernel_rfl
theorem stop1_idle (p : Addr) (w : World) :
    CallsD Try.prog 72 #[.pointer (some p)] .returning w fun e u' w' => e = .returned (.tuple #[]) ∧ u' = .returning ∧ w' = w := by
  refine callsD_of_wpS Try.func72 rfl fun c₀ cs hu => ?_
  apply wpS_seq
  apply wpS_region
  simp [wpOpsS, go_sem, recoverD, hu, Try.ntmps72, Exit.thenS]
  apply wpS_seq
  apply wpS_region
  simp [wpOpsS, go_sem, Exit.thenS]
  refine wpS_cond (t := false) (by simp [Act.eval, Array.replicate]) ?_
  simp only [Bool.false_eq_true, if_false]
  refine wpS_of_wp (wp_skip ?_)
  cases c₀
  simp_all [bodyPostS, results, Try.results72]
set_option maxRecDepth 100000 in
theorem stop1_catch (g : Nat) (k x : Int) (older : List PanicEntry) (w : World) (hb : w.heap[g]? = some (.cells #[.int .i64 x] 29 (0, 0))) :
    CallsD Try.prog 72 #[.pointer (some ⟨g, 0, none⟩)] (.panicking ({ v := stopV k, recovered := false } :: older)) w fun e u' w' =>
      e = .returned (.tuple #[]) ∧ u' = .panicking ({ v := stopV k, recovered := true } :: older) ∧ w' = (w.alloc (.cells #[.int .i64 k] 96)).setCell ⟨g, 0, none⟩ (.int .i64 k) := by
  refine callsD_of_wpS Try.func72 rfl fun c₀ cs hu => ?_
  apply wpS_seq
  apply wpS_region
  simp [wpOpsS, go_sem, recoverD, hu, Try.ntmps72, Exit.thenS]
  apply wpS_seq
  apply wpS_region
  simp [wpOpsS, go_sem, Exit.thenS]
  refine wpS_cond (t := true) (by simp [Act.eval, Array.replicate]) ?_
  simp only [if_true]
  refine wpS_of_wp ?_
  rw [show (#[Value.pointer (some ⟨g, 0, none⟩)] ++ ((((Array.replicate 16 undef).setIfInBounds 3 (stopV k)).setIfInBounds 0 (stopV k)).setIfInBounds 4 (stopV k)).setIfInBounds 5 (Value.bool true)) = #[.pointer (some ⟨g, 0, none⟩), stopV k, undef, undef, stopV k, stopV k, .bool true, undef, undef, undef, undef, undef, undef, undef, undef, undef, undef] by kernel_rfl]
  have hta := assert_yes
  have hc := fun o => blk_cell (blk_alloc o hb) (j := 0) rfl
  have hz := fun o => blk_free (blk_alloc o hb) 0
  go_wp2
  simp [bodyPostS, results, Try.results72]
theorem stop_ret (f : FuncId) (caps : Array Value) (w : World) (Φ : World → Prop) (he : Enters Try.prog f)
    (hf : Calls Try.prog f caps (w.alloc (.cells #[.int .i64 0] 29)) fun e w' => e = .returned (.tuple #[]) ∧ w'.heap[w.heap.size]? = some (.cells #[.int .i64 0] 29 (0, 0)) ∧ Φ w') :
    Calls Try.prog 48 #[.func (.func f) #[] caps] w fun e w' => ∃ w1, Φ w1 ∧ e = .returned (.int .i64 0) ∧ w' = w1.setCell ⟨w.heap.size, 0, none⟩ (.int .i64 0) := by
  have hmf : ∀ (fn : Fn) (first cap : Array Value) (w : World), (Instr.makeFunc fn first cap).run Try.prog w = .ok (.func fn first cap) w := fun _ _ _ _ => rfl
  have hen := he caps (w.alloc (.cells #[.int .i64 0] 29))
  go_enter_defers Try.func48, Try.ntmps48
  go_wp2_with (refine Calls.mono hf ?_; rintro e w1 ⟨rfl, hb, hφ⟩; have hc := blk_cell hb (j := 0) rfl; have hz := blk_free hb 0)
  refine leaves_cons (f := 72) (args := #[.pointer (some ⟨w.heap.size, 0, none⟩)]) (by simp) (by simp [go_sem]) ?_
  refine (stop1_idle ⟨w.heap.size, 0, none⟩ _).mono ?_
  rintro e u' w'' ⟨rfl, rfl, rfl⟩
  simp [Leaves, settle, results, Try.results48, go_sem, hc]
  exact ⟨w1, hφ, rfl⟩
theorem stop_pan (f : FuncId) (caps : Array Value) (k : Int) (w : World) (Φ : World → Prop) (he : Enters Try.prog f)
    (hf : Calls Try.prog f caps (w.alloc (.cells #[.int .i64 0] 29)) fun e w' => e = .panicked [{ v := stopV k, recovered := false }] ∧ w'.heap[w.heap.size]? = some (.cells #[.int .i64 0] 29 (0, 0)) ∧ Φ w') :
    Calls Try.prog 48 #[.func (.func f) #[] caps] w fun e w' => ∃ w1, Φ w1 ∧ e = .returned (.int .i64 k) ∧ w' = (w1.alloc (.cells #[.int .i64 k] 96)).setCell ⟨w.heap.size, 0, none⟩ (.int .i64 k) := by
  have hmf : ∀ (fn : Fn) (first cap : Array Value) (w : World), (Instr.makeFunc fn first cap).run Try.prog w = .ok (.func fn first cap) w := fun _ _ _ _ => rfl
  have hen := he caps (w.alloc (.cells #[.int .i64 0] 29))
  go_enter_defers Try.func48, Try.ntmps48
  go_wp2_with (refine Calls.mono hf ?_; rintro e w1 ⟨rfl, hb, hφ⟩)
  refine leaves_cons (f := 72) (args := #[.pointer (some ⟨w.heap.size, 0, none⟩)]) (by simp) (by simp [go_sem]) ?_
  refine (stop1_catch w.heap.size k 0 [] _ hb).mono ?_
  rintro e u' w'' ⟨rfl, rfl, rfl⟩
  have hc := fun o => blk_cell (blk_alloc o hb) (j := 0) rfl
  simp [Leaves, settle, results, Try.results48, go_sem, hc]
  exact ⟨w1, hφ, rfl⟩
theorem gr_bel {w w' : World} {row : Option Nat} (h : Below w.heap.size w w') : w.grownBy w' row := ⟨h.os, h.tape, h.output, h.size, fun i hi _ => h.block i hi⟩
theorem gr_set4 {w w1 : World} {g j : Nat} (h : w.grownBy w1 (some g)) (v : Value) : w.grownBy (w1.setCell ⟨g, j, none⟩ v) (some g) := by
  have key : w1.grownBy (w1.setCell ⟨g, j, none⟩ v) (some g) := ⟨rfl, rfl, rfl, by simp [World.setCell], fun i _ hne => by
    have : i ≠ g := fun h => hne (by rw [h])
    exact Below.heap_setCell w1 _ v i this⟩
  exact h.trans key
abbrev SC (v : Value) (gen used top : Int) (down : Bool) : Array Value := #[v, .int .i64 gen, .int .i64 used, .int .i64 top, .bool down]
theorem swrite_ok (g : Nat) (v : Value) (xs : List ByteArray) (gen used top : Int) (down : Bool) (at_ gn no : Int) (p : ByteArray) (fk fK : Int) (w : World)
    (hB : w.heap[g]? = some (.cells (SC v gen used top down) 26 (0, 0))) (hS : SlAt w v 1 xs.length (strs xs)) (hne : ∀ b, v.ownBlock = some b → b ≠ g) (h1 : fk ≠ 1) (h2 : fk ≠ 2) :
    Calls Try.prog 50 #[.pointer (some ⟨g, 0, none⟩), .int .i64 at_, .int .i64 gn, .int .i64 no, .string p, .agg #[.int .i64 fk, .int .i64 fK]] w fun e w' =>
      ∃ v', e = .returned (.tuple #[]) ∧ w'.heap[g]? = some (.cells (SC v' gen used top down) 26 (0, 0)) ∧ SlAt w' v' 1 (tearL xs at_ (sealS gn no p) 128).length (strs (tearL xs at_ (sealS gn no p) 128)) ∧ FreshV w.heap.size v' ∧ w.grownBy w' (some g) := by
  obtain ⟨a, c, rfl, hnc, hcm⟩ := hS.form
  obtain ⟨t, ht⟩ : ∃ t, t = sealS gn no p := ⟨_, rfl⟩
  have hs := fun W => seal_any gn no p W
  rw [← ht] at hs ⊢
  have HS := Lib.hid hs
  clear hs ht
  have hw := fun W (h : SlAt W (Value.slice a xs.length c) 1 xs.length (strs xs)) => write_any _ xs at_ t W h
  obtain ⟨ys, hys⟩ : ∃ ys, ys = tearL xs at_ t 128 := ⟨_, rfl⟩
  obtain ⟨eE, heE⟩ : ∃ eE, eE = tearE xs at_ t 128 := ⟨_, rfl⟩
  rw [← hys] at hw ⊢
  rw [← heE] at hw
  have HW := Lib.hid hw
  have HSl := Lib.hid hS
  have HB := Lib.hid hB
  have e1 : (fk == 1) = false := by simpa using h1
  have e2 : (fk == 2) = false := by simpa using h2
  clear hw hS hB h1 h2
  clear hys heE
  go_enter Try.func50, Try.ntmps50
  go_wp2_with (first
    | (go_at_call 33; refine (HS.out _).mono ?_; rintro e w1 ⟨rfl, hb1⟩; have K1 := Lib.hid (blk_call hb1 (blk_new w (.cells #[.int .i64 fk, .int .i64 fK] 45))); have c1 := blk_cell K1.out (j := 0) rfl; have z1 := blk_free K1.out 0; have G1 := Lib.hid (blk_call hb1 (blk_alloc _ HB.out)); have c2 := blk_cell G1.out (j := 0) rfl; have z2 := blk_free G1.out 0)
    | (go_at_call 34; refine (HW.out _ (HSl.out.stay (bel (bal (Below.refl _ _) _) hb1))).mono ?_; rintro e w2 ⟨v2, rfl, hv2, hf2, hb2⟩; obtain ⟨a2, c2', rfl, hn2, hm2⟩ := hv2.form; have HV2 := Lib.hid hv2; have G2 := Lib.hid (blk_call hb2 G1.out); have c3 := blk_cell G2.out (j := 0) rfl; have z3 := blk_free G2.out 0; clear hv2))
  go_end0
  have hw2 := bel (bel (bal (Below.refl w.heap.size w) (.cells #[.int .i64 fk, .int .i64 fK] 45)) hb1) hb2
  have hg : g < w.heap.size := blk_lt HB.out
  have hsz : w.heap.size ≤ w1.heap.size := (bel (bal (Below.refl w.heap.size w) (.cells #[.int .i64 fk, .int .i64 fK] 45)) hb1).size
  exact ⟨.slice a2 _ c2', rfl, blk_set G2.out 0 _, HV2.out.store (p := ⟨g, 0, none⟩) (fun b hb => by have := hf2 b hb; show b ≠ g; omega) _, hf2.mono hsz, gr_set4 (gr_bel hw2) _⟩
theorem swrite_fail (g : Nat) (v : Value) (gen used top : Int) (down : Bool) (at_ gn no : Int) (p : ByteArray) (fK : Int) (w : World)
    (hB : w.heap[g]? = some (.cells (SC v gen used top down) 26 (0, 0))) :
    Calls Try.prog 50 #[.pointer (some ⟨g, 0, none⟩), .int .i64 at_, .int .i64 gn, .int .i64 no, .string p, .agg #[.int .i64 1, .int .i64 fK]] w fun e w' =>
      e = .panicked [{ v := stopV 8, recovered := false }] ∧ Below w.heap.size w w' := by
  obtain ⟨t, ht⟩ : ∃ t, t = sealS gn no p := ⟨_, rfl⟩
  have hs := fun W => seal_any gn no p W
  rw [← ht] at hs
  have HS := Lib.hid hs
  clear hs ht
  go_enter Try.func50, Try.ntmps50
  go_wp2_with (first
    | (go_at_call 33; refine (HS.out _).mono ?_; rintro e w1 ⟨rfl, hb1⟩; have K1 := Lib.hid (blk_call hb1 (blk_new w (.cells #[.int .i64 1, .int .i64 fK] 45))); have c1 := blk_cell K1.out (j := 0) rfl; have z1 := blk_free K1.out 0))
  exact ⟨rfl, rfl, bel (bal (Below.refl _ _) _) hb1⟩
theorem swrite_crash (g : Nat) (v : Value) (xs : List ByteArray) (gen used top : Int) (down : Bool) (at_ gn no : Int) (p : ByteArray) (fK : Int) (w : World)
    (hB : w.heap[g]? = some (.cells (SC v gen used top down) 26 (0, 0))) (hS : SlAt w v 1 xs.length (strs xs)) (hne : ∀ b, v.ownBlock = some b → b ≠ g) :
    Calls Try.prog 50 #[.pointer (some ⟨g, 0, none⟩), .int .i64 at_, .int .i64 gn, .int .i64 no, .string p, .agg #[.int .i64 2, .int .i64 fK]] w fun e w' =>
      ∃ v', e = .panicked [{ v := stopV 9, recovered := false }] ∧ w'.heap[g]? = some (.cells (SC v' gen used top true) 26 (0, 0)) ∧ SlAt w' v' 1 (tearL xs at_ (sealS gn no p) fK).length (strs (tearL xs at_ (sealS gn no p) fK)) ∧ FreshV w.heap.size v' ∧ w.grownBy w' (some g) := by
  obtain ⟨a, c, rfl, hnc, hcm⟩ := hS.form
  obtain ⟨t, ht⟩ : ∃ t, t = sealS gn no p := ⟨_, rfl⟩
  have hs := fun W => seal_any gn no p W
  rw [← ht] at hs ⊢
  have HS := Lib.hid hs
  clear hs ht
  have hw := fun W (h : SlAt W (Value.slice a xs.length c) 1 xs.length (strs xs)) => tear_any _ xs at_ t fK W h
  obtain ⟨ys, hys⟩ : ∃ ys, ys = tearL xs at_ t fK := ⟨_, rfl⟩
  obtain ⟨eE, heE⟩ : ∃ eE, eE = tearE xs at_ t fK := ⟨_, rfl⟩
  rw [← hys] at hw ⊢
  rw [← heE] at hw
  have HW := Lib.hid hw
  have HSl := Lib.hid hS
  have HB := Lib.hid hB
  clear hw hS hB
  clear hys heE
  go_enter Try.func50, Try.ntmps50
  go_wp2_with (first
    | (go_at_call 33; refine (HS.out _).mono ?_; rintro e w1 ⟨rfl, hb1⟩; have K1 := Lib.hid (blk_call hb1 (blk_new w (.cells #[.int .i64 2, .int .i64 fK] 45))); have c1 := blk_cell K1.out (j := 0) rfl; have z1 := blk_free K1.out 0; have c1b := blk_cell K1.out (j := 1) rfl; have z1b := blk_free K1.out 1; have G1 := Lib.hid (blk_call hb1 (blk_alloc _ HB.out)); have c2 := blk_cell G1.out (j := 0) rfl; have z2 := blk_free G1.out 0)
    | fail)
  have hd : SlAt w1.drew (Value.slice a xs.length c) 1 xs.length (strs xs) := HSl.out.stay (bdn (bel (bal (Below.refl _ _) _) hb1) 1)
  have gd : w1.drew.heap[g]? = some (.cells (SC (.slice a xs.length c) gen used top down) 26 (0, 0)) := G1.out
  have hcall := HW.out w1.drew hd
  go_region_law (go_simp; go_at_call 59; refine hcall.mono ?_; rintro e w2 ⟨v2, rfl, hv2, hf2, hb2⟩; obtain ⟨a2, c2', rfl, hn2, hm2⟩ := hv2.form; have HV2 := Lib.hid hv2; have G2 := Lib.hid (blk_call hb2 gd); have c3 := blk_cell G2.out (j := 0) rfl; have z3 := blk_free G2.out 0; clear hv2)
  all_goals
    have G3 := Lib.hid (blk_set G2.out 0 (Value.slice a2 ys.length c2'))
    have c5 : (w2.setCell ⟨g, 0, none⟩ (Value.slice a2 ys.length c2')).cell? ⟨g, 4, none⟩ = some (.bool down) := blk_cell G3.out (j := 4) rfl
    have z5 := blk_free G3.out 4
    go_wp2
    have hw1 := bdn (bel (bal (Below.refl w.heap.size w) (.cells #[.int .i64 2, .int .i64 fK] 45)) hb1) 1
    have hw2 := bel hw1 hb2
    have hg : g < w.heap.size := blk_lt HB.out
    have hsz : w.heap.size ≤ w1.drew.heap.size := hw1.size
    have hs0 := HV2.out.store (p := ⟨g, 0, none⟩) (fun b hb => by have := hf2 b hb; show b ≠ g; omega) (.slice a2 ys.length c2')
    exact ⟨rfl, .slice a2 ys.length c2', rfl, blk_set G3.out 4 _, hs0.store (p := ⟨g, 4, none⟩) (fun b hb => by have := hf2 b hb; show b ≠ g; omega) _, hf2.mono hsz, gr_set4 (gr_set4 (gr_bel hw2) _) _⟩
end Go.Proofs.Ytopaddpclipnjaa
namespace Go.Proofs.Ytopaddpclipnjaa
open Go.RowKit
structure Sto where
  xs : List ByteArray
  gen : Int
  used : Int
  top : Int
  down : Bool
def areaD (xs : List ByteArray) : Int := (xs.length : Int) / 2 - 1
def logB (xs : List ByteArray) : Bool := rightD xs && decide ((xs.length : Int) % 2 = 0)
def inB (n lo hi : Int) : Bool := decide (lo ≤ n) && decide (n ≤ hi)
def Sto.okB (s : Sto) : Bool := logB s.xs && (inB s.gen 1 250 && (inB s.used 0 (areaD s.xs) && inB s.top s.gen 250))
def mayS (s : Sto) (l : List ByteArray) (fs : List Flt) : Int :=
  if (!s.okB || fs.any fun f => !fltB f) = true then 1 else if (l.any fun p => decide (96 < p.size)) = true then 2 else if s.down = true then 9 else 0
def Sto.val (s : Sto) (v : Value) : Value := .agg (SC v s.gen s.used s.top s.down)
theorem in_any (n lo hi : Int) (w : World) : Calls Try.prog 39 #[.int .i64 n, .int .i64 lo, .int .i64 hi] w fun e w' => e = .returned (.bool (inB n lo hi)) ∧ w' = w := by
  unfold inB
  by_cases h1 : lo ≤ n <;> by_cases h2 : n ≤ hi
  all_goals
    go_enter Try.func39, Try.ntmps39
    go_wp2
    go_ret
    simp [h1, h2]
theorem isFault_any (x : Flt) (w : World) : Calls Try.prog 69 #[fltV x] w fun e w' => e = .returned (.bool (fltB x)) ∧ Below w.heap.size w w' := by
  have HI := Lib.hid (fun n lo hi W => in_any n lo hi W)
  have e : fltB x = (inB x.kind 0 2 && inB x.k 0 128) := by unfold fltB inB; simp [Bool.and_assoc]
  rw [e]
  unfold fltV
  cases h : inB x.kind 0 2
  all_goals
    go_enter Try.func69, Try.ntmps69
    go_wp2_with (go_at_call 39; refine (HI.out _ _ _ _).mono ?_; (try rw [h]); rintro e w' ⟨rfl, rfl⟩)
    go_ret
    exact ⟨rfl, bal (Below.refl _ _) _⟩
theorem may1_any (x : Flt) (w : World) : Calls Try.prog 68 #[fltV x] w fun e w' => e = .returned (.bool (!fltB x)) ∧ Below w.heap.size w w' := by
  have HI := Lib.hid (fun W => isFault_any x W)
  unfold fltV at HI ⊢
  go_enter Try.func68, Try.ntmps68
  go_wp2_with (go_at_call 69; refine (HI.out _).mono ?_; rintro e w' ⟨rfl, hb⟩)
  go_ret
  exact ⟨rfl, bel (bal (Below.refl _ _) _) hb⟩
theorem may2_any (x : ByteArray) (w : World) : Calls Try.prog 71 #[.string x] w fun e w' => e = .returned (.bool (decide (96 < x.size))) ∧ Below w.heap.size w w' := by
  by_cases h : 96 < x.size
  all_goals
    go_enter Try.func71, Try.ntmps71
    go_wp2
    go_ret
    exact ⟨ret_bool (by rw [Bool.eq_iff_iff]; simp only [decide_eq_true_eq]; omega), Below.refl _ _⟩
theorem area_any (v : Value) (xs : List ByteArray) (w : World) (hS : SlAt w v 1 xs.length (strs xs)) : Calls Try.prog 37 #[.agg #[v]] w fun e w' => e = .returned (.int .i64 (areaD xs)) ∧ Below w.heap.size w w' := by
  obtain ⟨a, c, rfl, hnc, hcm⟩ := hS.form
  go_enter Try.func37, Try.ntmps37
  go_wp2
  go_ret
  refine ⟨ret_int ?_, bal (Below.refl _ _) _⟩
  unfold maxLen at hcm
  unfold areaD wrap64
  omega
def placeD (xs : List ByteArray) (gen i : Int) : Int := 2 + gen % 2 * areaD xs + i
theorem place_any (v : Value) (xs : List ByteArray) (gen i : Int) (w : World) (hS : SlAt w v 1 xs.length (strs xs)) (hl : xs.length ≤ 1000) (hg0 : 0 ≤ gen) (hg : gen ≤ 1000) (hi0 : 0 ≤ i) (hi : i ≤ 1000) :
    Calls Try.prog 38 #[.agg #[v], .int .i64 gen, .int .i64 i] w fun e w' => e = .returned (.int .i64 (placeD xs gen i)) ∧ Below w.heap.size w w' := by
  obtain ⟨a, c, rfl, hnc, hcm⟩ := hS.form
  have HA := Lib.hid (fun W (h : SlAt W (Value.slice a xs.length c) 1 xs.length (strs xs)) => area_any _ xs W h)
  have HS := Lib.hid hS
  clear hS
  go_enter Try.func38, Try.ntmps38
  go_wp2_with (go_at_call 37; refine (HA.out _ (HS.out.stay (bal (Below.refl _ _) _))).mono ?_; rintro e w1 ⟨rfl, hb⟩)
  go_ret
  refine ⟨ret_int ?_, bel (bal (Below.refl _ _) _) hb⟩
  unfold placeD areaD
  rcases (by omega : gen % 2 = 0 ∨ gen % 2 = 1) with h | h
  · rw [h]
    unfold wrap64
    omega
  · rw [h]
    unfold wrap64
    omega
end Go.Proofs.Ytopaddpclipnjaa
namespace Go.Proofs.YtopaddpclipnjaaQ.P
open Go.RowKit Go.Proofs.YtopaddpclipnjaaW.PrintWords Go.Proofs.Ytopaddpclipnjaa
theorem c_of_slat {w : World} {A : Option Addr} {c : Nat} {xs : List ByteArray} (h : SlAt w (.slice A xs.length c) 1 xs.length (strs xs)) : Kd.C Kd.string w A xs.length xs ∧ xs.length ≤ c := by
  have hv := v_of_fresh (B := 0) (e := 9) (base := 0) h (fun _ _ => Nat.zero_le _)
  obtain ⟨_, h2, h3⟩ := Kd.V_reads' hv
  exact ⟨h3, h2⟩
theorem storeRight_f (s : Sto) (hl : s.xs.length ≤ maxLen) : store_Right.f s.xs s.gen s.used s.top s.down = some s.okB := by
  have h1 : store_hasLog.f s.xs = some (logB s.xs) := by
    unfold store_hasLog.f sector_Right.f logB
    cases rightD s.xs
    · rfl
    · rw [Option.bind_some, if_pos rfl, Bool.true_and]
      congr 1
  have h2 : ∀ n lo hi : Int, store_in.f n lo hi = some (inB n lo hi) := by
    intro n lo hi
    unfold store_in.f inB
    by_cases h : lo ≤ n <;> simp [h]
  have h3 : store_area.f s.xs = some (areaD s.xs) := by
    unfold store_area.f areaD
    congr 1
    unfold maxLen at hl
    unfold wrap64
    omega
  unfold store_Right.f Sto.okB
  rw [h1, h2, h3]
  simp only [Option.bind_some, h2]
  cases logB s.xs <;> cases inB s.gen 1 250 <;> cases inB s.used 0 (areaD s.xs) <;> simp
theorem storeRight_any (s : Sto) (v : Value) (w : World) (hS : SlAt w v 1 s.xs.length (strs s.xs)) : Calls Try.prog 13 #[s.val v] w fun e w' => e = .returned (.bool s.okB) ∧ Below w.heap.size w w' := by
  obtain ⟨a, c, rfl, hnc, hcm⟩ := hS.form
  have hc := c_of_slat hS
  exact store_Right.calls a c s.xs s.gen s.used s.top s.down s.okB w hc.1 hc.2 (storeRight_f s hcm)
end Go.Proofs.YtopaddpclipnjaaQ.P
namespace Go.Proofs.Ytopaddpclipnjaa
open Go.RowKit
theorem storeMay_any (s : Sto) (v v1 v2 : Value) (l : List ByteArray) (fs : List Flt) (w : World) (hS : SlAt w v 1 s.xs.length (strs s.xs)) (h1 : SlAt w v1 1 l.length (strs l)) (h2 : SlAt w v2 2 fs.length (fltsC fs)) :
    Calls Try.prog 47 #[s.val v, v1, v2] w fun e w' => e = .returned (.int .i64 (mayS s l fs)) ∧ Below w.heap.size w w' := by
  have HR := Lib.hid (fun W (h : SlAt W v 1 s.xs.length (strs s.xs)) => Go.Proofs.YtopaddpclipnjaaQ.P.storeRight_any s v W h)
  have HF := Lib.hid (fun W (h : SlAt W v2 2 fs.length (fltsC fs)) => containsFuncF v2 fs 68 #[] (fun f => !fltB f) W h (fun x _ W' _ => may1_any x W') (enters_of Try.func68 (by kernel_rfl) rfl))
  have HP := Lib.hid (fun W (h : SlAt W v1 1 l.length (strs l)) => containsFuncS_any v1 l 71 #[] (fun p => decide (96 < p.size)) W h (fun x _ W' _ => may2_any x W') (enters_of Try.func71 (by kernel_rfl) rfl))
  have H1 := Lib.hid h1
  have H2 := Lib.hid h2
  have H0 := Lib.hid hS
  obtain ⟨a0, c0, rfl, _, _⟩ := hS.form
  obtain ⟨a1, c1, rfl, _, _⟩ := h1.form
  obtain ⟨a2, c2, rfl, _, _⟩ := h2.form
  clear hS h1 h2
  obtain ⟨r, hr⟩ : ∃ r, r = s.okB := ⟨_, rfl⟩
  obtain ⟨x, hx⟩ : ∃ x, x = fs.any (fun f => !fltB f) := ⟨_, rfl⟩
  obtain ⟨y, hy⟩ : ∃ y, y = l.any (fun p => decide (96 < p.size)) := ⟨_, rfl⟩
  unfold mayS
  rw [← hr] at HR ⊢
  rw [← hx] at HF ⊢
  rw [← hy] at HP ⊢
  unfold Sto.val at HR ⊢
  obtain ⟨xs, gen, used, top, down⟩ := s
  simp only at HR H0 ⊢
  clear hr hx hy
  cases r <;> cases x <;> cases y <;> cases down
  all_goals
    go_enter Try.func47, Try.ntmps47
    go_wp2_with (first
      | (go_at_call 13; refine (HR.out _ (H0.out.stay (bal (Below.refl _ _) _))).mono ?_; rintro e w1 ⟨rfl, hb1⟩; have hw1 := bel (bal (Below.refl w.heap.size w) _) hb1; have K1 := Lib.hid (blk_call hb1 (blk_new w _)); have k1 := blk_cell K1.out (j := 4) rfl; have z1 := blk_free K1.out 4)
      | (go_at_call 67; refine (HF.out _ (H2.out.stay hw1)).mono ?_; rintro e w2 ⟨rfl, hb2⟩; have hw2 := bel hw1 hb2; have K2 := Lib.hid (blk_call hb2 K1.out); have k2 := blk_cell K2.out (j := 4) rfl; have z2 := blk_free K2.out 4)
      | (go_at_call 70; refine (HP.out _ (H1.out.stay hw2)).mono ?_; rintro e w3 ⟨rfl, hb3⟩; have hw3 := bel hw2 hb3; have K3 := Lib.hid (blk_call hb3 K2.out); have k3 := blk_cell K3.out (j := 4) rfl; have z3 := blk_free K3.out 4))
    go_ret
    refine ⟨rfl, ?_⟩
    first | exact hw3 | exact hw2 | exact hw1
end Go.Proofs.Ytopaddpclipnjaa
namespace Go.Proofs.Ytopaddpclipnjaa
open Go.RowKit Go.Proofs.YtopaddpclipnjaaW.PrintLast
theorem goesP_ {P : Program} {Q : Exit → Act → World → Prop} {ops : Array Oper} {oi : Oper} {N : Option Tmp} {a : Act} {w : World} {K : Act → World → Prop} {f : FuncId} {fn : Func} {as_ : Array Operand} {ts : Array TypeId} (hf : P.funcs[f]? = some fn) (hname : (fn.name == "runtime.NumGoroutine") = false) (hb : fn.body.isSome = true) (args : Array Value)
    (hw : Region.wanted oi (yielded ops a.tmps) = true) (hop : oi.op = .call { callee := .value (.func f), args := as_, argTypes := ts }) (hargs : as_.map a.eval = args)
    (h : Calls P f args w fun e w' => ∃ ch, e = .panicked ch ∧ Q (.panic ch) a w') : if Region.wanted oi (yielded ops a.tmps) = true then Oper.wp P oi a w K Q else K (a.put N undef) w := by
  have he := enters_ hf hname hb args w
  have hrun : (execOp a.eval oi).run P w = .ok (.enter f args) w := by
    unfold execOp
    simp [hop, resolve, Deferred.ofValue, invoke, Act.eval, hargs, he]
  rw [if_pos hw]
  unfold Oper.wp
  rw [hrun, Oper.upon_enter]
  refine h.mono fun e w'' hh => ?_
  obtain ⟨v, rfl, hk⟩ := hh
  exact hk
set_option maxHeartbeats 4000000 in
theorem app1_ok (gs gp gf : Nat) (v : Value) (xs : List ByteArray) (gen used top : Int) (down : Bool) (p : ByteArray) (fk fK : Int) (w : World)
    (hB : w.heap[gs]? = some (.cells (SC v gen used top down) 26 (0, 0))) (hP : w.heap[gp]? = some (.cells #[.string p] 9 (0, 0))) (hF : w.heap[gf]? = some (.cells #[.int .i64 fk, .int .i64 fK] 45 (0, 0)))
    (hS : SlAt w v 1 xs.length (strs xs)) (hne : ∀ b, v.ownBlock = some b → b ≠ gs) (hl : xs.length ≤ 1000) (g0 : 0 ≤ gen) (g1 : gen ≤ 1000) (u0 : 0 ≤ used) (u1 : used ≤ 900) (h1 : fk ≠ 1) (h2 : fk ≠ 2) :
    Calls Try.prog 49 #[.pointer (some ⟨gs, 0, none⟩), .pointer (some ⟨gp, 0, none⟩), .pointer (some ⟨gf, 0, none⟩)] w fun e w' =>
      ∃ v', e = .returned (.tuple #[]) ∧ w'.heap[gs]? = some (.cells (SC v' gen (used + 1) top down) 26 (0, 0)) ∧ SlAt w' v' 1 (tearL xs (placeD xs gen used) (sealS gen (used + 1) p) 128).length (strs (tearL xs (placeD xs gen used) (sealS gen (used + 1) p) 128)) ∧ FreshV w.heap.size v' ∧ w.grownBy w' (some gs) := by
  obtain ⟨a, c, rfl, hnc, hcm⟩ := hS.form
  have HB := Lib.hid hB
  have HS := Lib.hid hS
  have hN := Lib.hid hne
  obtain ⟨q, hq⟩ : ∃ q, q = placeD xs gen used := ⟨_, rfl⟩
  have hpl := fun W (h : SlAt W (Value.slice a xs.length c) 1 xs.length (strs xs)) => place_any _ xs gen used W h hl g0 g1 u0 (by omega)
  rw [← hq] at hpl ⊢
  have HP := Lib.hid hpl
  have hw64 : wrap64 (used + 1) = used + 1 := by unfold wrap64; omega
  have hwi : IntKind.i64.wrap (used + 1) = used + 1 := by rw [IntKind.wrap_i64]; omega
  obtain ⟨ys, hys⟩ : ∃ ys, ys = tearL xs q (sealS gen (used + 1) p) 128 := ⟨_, rfl⟩
  have hwr := fun W (hb : W.heap[gs]? = some (.cells (SC (Value.slice a xs.length c) gen used top down) 26 (0, 0))) (h : SlAt W (Value.slice a xs.length c) 1 xs.length (strs xs)) => swrite_ok gs (Value.slice a xs.length c) xs gen used top down q gen (used + 1) p fk fK W hb h hN.out h1 h2
  rw [← hys] at hwr ⊢
  have HW := Lib.hid hwr
  have b0 : w.drew.cell? ⟨gs, 0, none⟩ = some (Value.slice a xs.length c) := blk_cell (show w.drew.heap[gs]? = _ from hB) (j := 0) rfl
  have b1 : w.drew.cell? ⟨gs, 1, none⟩ = some (.int .i64 gen) := blk_cell (show w.drew.heap[gs]? = _ from hB) (j := 1) rfl
  have b2 : w.drew.cell? ⟨gs, 2, none⟩ = some (.int .i64 used) := blk_cell (show w.drew.heap[gs]? = _ from hB) (j := 2) rfl
  have hd : SlAt w.drew (Value.slice a xs.length c) 1 xs.length (strs xs) := hS.stay (bdn (Below.refl _ _) 1)
  have BD : Hid (w.drew.heap[gs]? = some (.cells (SC (Value.slice a xs.length c) gen used top down) 26 (0, 0))) := Lib.hid hB
  have PD : Hid (w.drew.heap[gp]? = some (.cells #[.string p] 9 (0, 0))) := Lib.hid hP
  have FD : Hid (w.drew.heap[gf]? = some (.cells #[.int .i64 fk, .int .i64 fK] 45 (0, 0))) := Lib.hid hF
  have b3 : w.drew.cell? ⟨gp, 0, none⟩ = some (.string p) := blk_cell (show w.drew.heap[gp]? = _ from hP) (j := 0) rfl
  have b4 : w.drew.cell? ⟨gf, 0, none⟩ = some (.int .i64 fk) := blk_cell (show w.drew.heap[gf]? = _ from hF) (j := 0) rfl
  have b5 : w.drew.cell? ⟨gf, 1, none⟩ = some (.int .i64 fK) := blk_cell (show w.drew.heap[gf]? = _ from hF) (j := 1) rfl
  clear hpl hwr hS hB hP hF hne hq hys h1 h2 hl g0 g1 u0 u1
  go_enter Try.func49, Try.ntmps49
  go_wp2
  refine start_ (n := 15) (S := fun w' => w'.cell? ⟨gs, 0, none⟩ = some (Value.slice a xs.length c) ∧ w'.cell? ⟨gs, 1, none⟩ = some (.int .i64 gen) ∧ w'.cell? ⟨gs, 2, none⟩ = some (.int .i64 used) ∧ w'.cell? ⟨gp, 0, none⟩ = some (.string p) ∧ w'.cell? ⟨gf, 0, none⟩ = some (.int .i64 fk) ∧ w'.cell? ⟨gf, 1, none⟩ = some (.int .i64 fK)) (ds := [14]) #[false, false, false, false, false, false, false, false, false, false, false, false, false, false, false] (by kernel_rfl) rfl rfl ⟨b0, b1, b2, b3, b4, b5⟩ (fun hHeld => ?_)
  refine pure_ (i := 0) (N := some 3) (v := ?_) (a' := ?_) #[true, false, false, false, false, false, false, false, false, false, false, false, false, false, false] rfl rfl (by kernel_rfl) (fun _ _ _ h => h) (Or.inl ⟨by rfl, ?_⟩) ?_ ?_
  rotate_left
  · intro w'
    go_simp
    with_reducible rfl
  rotate_left
  · simp only [Act.put, List.setIfInBounds_toArray, List.set_cons_zero, List.set_cons_succ, i64_w, i32_w]
    rfl
  refine take_ (i := 1) (N := some 4) (v := ?_) (a' := ?_) #[true, true, false, false, false, false, false, false, false, false, false, false, false, false, false] rfl rfl (by kernel_rfl) (fun _ _ _ h => h) (Or.inl ⟨by rfl, ?_⟩) hHeld ?_ ?_
  rotate_left
  · rintro w' ⟨s0, s1, s2, s3, s4, s5⟩
    go_simp
    with_reducible rfl
  rotate_left
  · simp only [Act.put, List.setIfInBounds_toArray, List.set_cons_zero, List.set_cons_succ, i64_w, i32_w]
    rfl
  refine pure_ (i := 2) (N := some 5) (v := ?_) (a' := ?_) #[true, true, true, false, false, false, false, false, false, false, false, false, false, false, false] rfl rfl (by kernel_rfl) (fun _ _ _ h => h) (Or.inl ⟨by rfl, ?_⟩) ?_ ?_
  rotate_left
  · intro w'
    go_simp
    with_reducible rfl
  rotate_left
  · simp only [Act.put, List.setIfInBounds_toArray, List.set_cons_zero, List.set_cons_succ, i64_w, i32_w]
    rfl
  refine take_ (i := 3) (N := some 6) (v := ?_) (a' := ?_) #[true, true, true, true, false, false, false, false, false, false, false, false, false, false, false] rfl rfl (by kernel_rfl) (fun _ _ _ h => h) (Or.inl ⟨by rfl, ?_⟩) hHeld ?_ ?_
  rotate_left
  · rintro w' ⟨s0, s1, s2, s3, s4, s5⟩
    go_simp
    with_reducible rfl
  rotate_left
  · simp only [Act.put, List.setIfInBounds_toArray, List.set_cons_zero, List.set_cons_succ, i64_w, i32_w]
    rfl
  refine pure_ (i := 4) (N := some 7) (v := ?_) (a' := ?_) #[true, true, true, true, true, false, false, false, false, false, false, false, false, false, false] rfl rfl (by kernel_rfl) (fun _ _ _ h => h) (Or.inl ⟨by rfl, ?_⟩) ?_ ?_
  rotate_left
  · intro w'
    go_simp
    with_reducible rfl
  rotate_left
  · simp only [Act.put, List.setIfInBounds_toArray, List.set_cons_zero, List.set_cons_succ, i64_w, i32_w]
    rfl
  refine take_ (i := 5) (N := some 8) (v := ?_) (a' := ?_) #[true, true, true, true, true, true, false, false, false, false, false, false, false, false, false] rfl rfl (by kernel_rfl) (fun _ _ _ h => h) (Or.inl ⟨by rfl, ?_⟩) hHeld ?_ ?_
  rotate_left
  · rintro w' ⟨s0, s1, s2, s3, s4, s5⟩
    go_simp
    with_reducible rfl
  rotate_left
  · simp only [Act.put, List.setIfInBounds_toArray, List.set_cons_zero, List.set_cons_succ, i64_w, i32_w]
    rfl
  refine pure_ (i := 7) (N := some 10) (v := ?_) (a' := ?_) #[true, true, true, true, true, true, false, true, false, false, false, false, false, false, false] rfl rfl (by kernel_rfl) (fun _ _ _ h => h) (Or.inl ⟨by rfl, ?_⟩) ?_ ?_
  rotate_left
  · intro w'
    go_simp
    with_reducible rfl
  rotate_left
  · simp only [Act.put, List.setIfInBounds_toArray, List.set_cons_zero, List.set_cons_succ, i64_w, i32_w]
    rfl
  refine take_ (i := 8) (N := some 11) (v := ?_) (a' := ?_) #[true, true, true, true, true, true, false, true, true, false, false, false, false, false, false] rfl rfl (by kernel_rfl) (fun _ _ _ h => h) (Or.inl ⟨by rfl, ?_⟩) hHeld ?_ ?_
  rotate_left
  · rintro w' ⟨s0, s1, s2, s3, s4, s5⟩
    go_simp
    with_reducible rfl
  rotate_left
  · simp only [Act.put, List.setIfInBounds_toArray, List.set_cons_zero, List.set_cons_succ, i64_w, i32_w]
    rfl
  refine pure_ (i := 9) (N := some 12) (v := ?_) (a' := ?_) #[true, true, true, true, true, true, false, true, true, true, false, false, false, false, false] rfl rfl (by kernel_rfl) (fun _ _ _ h => h) (Or.inl ⟨by rfl, ?_⟩) ?_ ?_
  rotate_left
  · intro w'
    go_simp
    with_reducible rfl
  rotate_left
  · simp only [Act.put, List.setIfInBounds_toArray, List.set_cons_zero, List.set_cons_succ, i64_w, i32_w]
    rfl
  refine take_ (i := 10) (N := some 13) (v := ?_) (a' := ?_) #[true, true, true, true, true, true, false, true, true, true, true, false, false, false, false] rfl rfl (by kernel_rfl) (fun _ _ _ h => h) (Or.inl ⟨by rfl, ?_⟩) hHeld ?_ ?_
  rotate_left
  · rintro w' ⟨s0, s1, s2, s3, s4, s5⟩
    go_simp
    with_reducible rfl
  rotate_left
  · simp only [Act.put, List.setIfInBounds_toArray, List.set_cons_zero, List.set_cons_succ, i64_w, i32_w]
    rfl
  refine pure_ (i := 11) (N := some 14) (v := ?_) (a' := ?_) #[true, true, true, true, true, true, false, true, true, true, true, true, false, false, false] rfl rfl (by kernel_rfl) (fun _ _ _ h => h) (Or.inl ⟨by rfl, ?_⟩) ?_ ?_
  rotate_left
  · intro w'
    go_simp
    with_reducible rfl
  rotate_left
  · simp only [Act.put, List.setIfInBounds_toArray, List.set_cons_zero, List.set_cons_succ, i64_w, i32_w]
    rfl
  refine take_ (i := 12) (N := some 15) (v := ?_) (a' := ?_) #[true, true, true, true, true, true, false, true, true, true, true, true, true, false, false] rfl rfl (by kernel_rfl) (fun _ _ _ h => h) (Or.inl ⟨by rfl, ?_⟩) hHeld ?_ ?_
  rotate_left
  · rintro w' ⟨s0, s1, s2, s3, s4, s5⟩
    go_simp
    with_reducible rfl
  rotate_left
  · simp only [Act.put, List.setIfInBounds_toArray, List.set_cons_zero, List.set_cons_succ, i64_w, i32_w]
    rfl
  refine take_ (i := 13) (N := some 16) (v := ?_) (a' := ?_) #[true, true, true, true, true, true, false, true, true, true, true, true, true, true, false] rfl rfl (by kernel_rfl) (fun _ _ _ h => h) (Or.inl ⟨by rfl, ?_⟩) hHeld ?_ ?_
  rotate_left
  · rintro w' ⟨s0, s1, s2, s3, s4, s5⟩
    go_simp
    with_reducible rfl
  rotate_left
  · simp only [Act.put, List.setIfInBounds_toArray, List.set_cons_zero, List.set_cons_succ, i64_w, i32_w]
    rfl
  refine one_ (i := 6) (N := some 9) #[true, true, true, true, true, true, true, true, true, true, true, true, true, true, false] rfl rfl (by kernel_rfl) (by decide) (fun K hK => ?_)
  refine goes_ Try.func38 (by kernel_rfl) rfl #[.agg #[.slice a xs.length c], .int .i64 gen, .int .i64 used] (by rfl) rfl rfl (by (try simp only [List.map_toArray, List.map_cons, List.map_nil]); first | done | rfl) ?_
  refine (HP.out _ hd).mono ?_
  rintro e w1 ⟨rfl, hb1⟩
  refine ⟨_, rfl, ?_⟩
  have B1 := Lib.hid (blk_call hb1 BD.out)
  have P1 := Lib.hid (blk_call hb1 PD.out)
  have F1 := Lib.hid (blk_call hb1 FD.out)
  have s1 := Lib.hid (hd.stay hb1)
  refine hK.out _ _ ⟨blk_cell B1.out (j := 0) rfl, blk_cell B1.out (j := 1) rfl, blk_cell B1.out (j := 2) rfl, blk_cell P1.out (j := 0) rfl, blk_cell F1.out (j := 0) rfl, blk_cell F1.out (j := 1) rfl⟩ (fun hHeld => ?_)
  clear hK K
  refine norm_ (a' := ?_) ?_ ?_
  rotate_left
  · show Act.put _ (some 9) _ = _
    simp only [Act.put, List.setIfInBounds_toArray, List.set_cons_zero, List.set_cons_succ, i64_w, i32_w]
    rfl
  refine last_ (i := 14) (N := some 17) #[true, true, true, true, true, true, true, true, true, true, true, true, true, true, true] rfl rfl (by kernel_rfl) (by decide) (fun K hK => ?_)
  refine goes_ Try.func50 (by kernel_rfl) rfl #[.pointer (some ⟨gs, 0, none⟩), .int .i64 q, .int .i64 gen, .int .i64 (used + 1), .string p, .agg #[.int .i64 fk, .int .i64 fK]] (by rfl) rfl rfl (by (try simp only [List.map_toArray, List.map_cons, List.map_nil]); first | done | rfl) ?_
  refine (HW.out _ B1.out s1.out).mono ?_
  rintro e w2 ⟨v2, rfl, hB2, hS2, hF2, hG2⟩
  refine ⟨_, rfl, ?_⟩
  refine hK.out _ _ ?_
  clear hK K
  refine norm_ (a' := ?_) ?_ ?_
  rotate_left
  · show Act.put _ (some 17) _ = _
    simp only [Act.put, List.setIfInBounds_toArray, List.set_cons_zero, List.set_cons_succ, i64_w, i32_w]
    rfl
  refine done_ (by kernel_rfl) ?_
  have B2 := Lib.hid hB2
  have d2 : w2.cell? ⟨gs, 2, none⟩ = some (.int .i64 used) := blk_cell B2.out (j := 2) rfl
  have z2 := blk_free B2.out 2
  go_wp2
  go_end0
  exact ⟨v2, rfl, blk_set B2.out 2 _, hS2.store (p := ⟨gs, 2, none⟩) (fun b hb => by have h1 := hF2 b hb; have h2 : gs < w.heap.size := blk_lt HB.out; have h3 : w.drew.heap.size ≤ w1.heap.size := hb1.size; have h4 : w.drew.heap.size = w.heap.size := rfl; show b ≠ gs; omega) _, hF2.mono (show w.drew.heap.size ≤ _ from hb1.size), gr_set4 ((gr_bel (row := some gs) (show Below w.heap.size w w1 from (bdn (Below.refl _ _) 1).trans ⟨hb1.os, hb1.tape, hb1.output, hb1.size, fun i hi => hb1.block i hi⟩)).trans hG2) _⟩
set_option maxHeartbeats 4000000 in
theorem app1_fail (gs gp gf : Nat) (v : Value) (xs : List ByteArray) (gen used top : Int) (down : Bool) (p : ByteArray) (fK : Int) (w : World)
    (hB : w.heap[gs]? = some (.cells (SC v gen used top down) 26 (0, 0))) (hP : w.heap[gp]? = some (.cells #[.string p] 9 (0, 0))) (hF : w.heap[gf]? = some (.cells #[.int .i64 1, .int .i64 fK] 45 (0, 0)))
    (hS : SlAt w v 1 xs.length (strs xs)) (hne : ∀ b, v.ownBlock = some b → b ≠ gs) (hl : xs.length ≤ 1000) (g0 : 0 ≤ gen) (g1 : gen ≤ 1000) (u0 : 0 ≤ used) (u1 : used ≤ 900) :
    Calls Try.prog 49 #[.pointer (some ⟨gs, 0, none⟩), .pointer (some ⟨gp, 0, none⟩), .pointer (some ⟨gf, 0, none⟩)] w fun e w' =>
      e = .panicked [{ v := stopV 8, recovered := false }] ∧ Below w.heap.size w w' := by
  obtain ⟨a, c, rfl, hnc, hcm⟩ := hS.form
  have HB := Lib.hid hB
  have HS := Lib.hid hS
  have hN := Lib.hid hne
  obtain ⟨q, hq⟩ : ∃ q, q = placeD xs gen used := ⟨_, rfl⟩
  have hpl := fun W (h : SlAt W (Value.slice a xs.length c) 1 xs.length (strs xs)) => place_any _ xs gen used W h hl g0 g1 u0 (by omega)
  rw [← hq] at hpl
  have HP := Lib.hid hpl
  have hw64 : wrap64 (used + 1) = used + 1 := by unfold wrap64; omega
  have hwi : IntKind.i64.wrap (used + 1) = used + 1 := by rw [IntKind.wrap_i64]; omega
  have hwr := fun W (hb : W.heap[gs]? = some (.cells (SC (Value.slice a xs.length c) gen used top down) 26 (0, 0))) => swrite_fail gs (Value.slice a xs.length c) gen used top down q gen (used + 1) p fK W hb
  have HW := Lib.hid hwr
  have b0 : w.drew.cell? ⟨gs, 0, none⟩ = some (Value.slice a xs.length c) := blk_cell (show w.drew.heap[gs]? = _ from hB) (j := 0) rfl
  have b1 : w.drew.cell? ⟨gs, 1, none⟩ = some (.int .i64 gen) := blk_cell (show w.drew.heap[gs]? = _ from hB) (j := 1) rfl
  have b2 : w.drew.cell? ⟨gs, 2, none⟩ = some (.int .i64 used) := blk_cell (show w.drew.heap[gs]? = _ from hB) (j := 2) rfl
  have hd : SlAt w.drew (Value.slice a xs.length c) 1 xs.length (strs xs) := hS.stay (bdn (Below.refl _ _) 1)
  have BD : Hid (w.drew.heap[gs]? = some (.cells (SC (Value.slice a xs.length c) gen used top down) 26 (0, 0))) := Lib.hid hB
  have PD : Hid (w.drew.heap[gp]? = some (.cells #[.string p] 9 (0, 0))) := Lib.hid hP
  have FD : Hid (w.drew.heap[gf]? = some (.cells #[.int .i64 1, .int .i64 fK] 45 (0, 0))) := Lib.hid hF
  have b3 : w.drew.cell? ⟨gp, 0, none⟩ = some (.string p) := blk_cell (show w.drew.heap[gp]? = _ from hP) (j := 0) rfl
  have b4 : w.drew.cell? ⟨gf, 0, none⟩ = some (.int .i64 1) := blk_cell (show w.drew.heap[gf]? = _ from hF) (j := 0) rfl
  have b5 : w.drew.cell? ⟨gf, 1, none⟩ = some (.int .i64 fK) := blk_cell (show w.drew.heap[gf]? = _ from hF) (j := 1) rfl
  clear hpl hwr hS hB hP hF hne hq hl g0 g1 u0 u1
  go_enter Try.func49, Try.ntmps49
  go_wp2
  refine start_ (n := 15) (S := fun w' => w'.cell? ⟨gs, 0, none⟩ = some (Value.slice a xs.length c) ∧ w'.cell? ⟨gs, 1, none⟩ = some (.int .i64 gen) ∧ w'.cell? ⟨gs, 2, none⟩ = some (.int .i64 used) ∧ w'.cell? ⟨gp, 0, none⟩ = some (.string p) ∧ w'.cell? ⟨gf, 0, none⟩ = some (.int .i64 1) ∧ w'.cell? ⟨gf, 1, none⟩ = some (.int .i64 fK)) (ds := [14]) #[false, false, false, false, false, false, false, false, false, false, false, false, false, false, false] (by kernel_rfl) rfl rfl ⟨b0, b1, b2, b3, b4, b5⟩ (fun hHeld => ?_)
  refine pure_ (i := 0) (N := some 3) (v := ?_) (a' := ?_) #[true, false, false, false, false, false, false, false, false, false, false, false, false, false, false] rfl rfl (by kernel_rfl) (fun _ _ _ h => h) (Or.inl ⟨by rfl, ?_⟩) ?_ ?_
  rotate_left
  · intro w'
    go_simp
    with_reducible rfl
  rotate_left
  · simp only [Act.put, List.setIfInBounds_toArray, List.set_cons_zero, List.set_cons_succ, i64_w, i32_w]
    rfl
  refine take_ (i := 1) (N := some 4) (v := ?_) (a' := ?_) #[true, true, false, false, false, false, false, false, false, false, false, false, false, false, false] rfl rfl (by kernel_rfl) (fun _ _ _ h => h) (Or.inl ⟨by rfl, ?_⟩) hHeld ?_ ?_
  rotate_left
  · rintro w' ⟨s0, s1, s2, s3, s4, s5⟩
    go_simp
    with_reducible rfl
  rotate_left
  · simp only [Act.put, List.setIfInBounds_toArray, List.set_cons_zero, List.set_cons_succ, i64_w, i32_w]
    rfl
  refine pure_ (i := 2) (N := some 5) (v := ?_) (a' := ?_) #[true, true, true, false, false, false, false, false, false, false, false, false, false, false, false] rfl rfl (by kernel_rfl) (fun _ _ _ h => h) (Or.inl ⟨by rfl, ?_⟩) ?_ ?_
  rotate_left
  · intro w'
    go_simp
    with_reducible rfl
  rotate_left
  · simp only [Act.put, List.setIfInBounds_toArray, List.set_cons_zero, List.set_cons_succ, i64_w, i32_w]
    rfl
  refine take_ (i := 3) (N := some 6) (v := ?_) (a' := ?_) #[true, true, true, true, false, false, false, false, false, false, false, false, false, false, false] rfl rfl (by kernel_rfl) (fun _ _ _ h => h) (Or.inl ⟨by rfl, ?_⟩) hHeld ?_ ?_
  rotate_left
  · rintro w' ⟨s0, s1, s2, s3, s4, s5⟩
    go_simp
    with_reducible rfl
  rotate_left
  · simp only [Act.put, List.setIfInBounds_toArray, List.set_cons_zero, List.set_cons_succ, i64_w, i32_w]
    rfl
  refine pure_ (i := 4) (N := some 7) (v := ?_) (a' := ?_) #[true, true, true, true, true, false, false, false, false, false, false, false, false, false, false] rfl rfl (by kernel_rfl) (fun _ _ _ h => h) (Or.inl ⟨by rfl, ?_⟩) ?_ ?_
  rotate_left
  · intro w'
    go_simp
    with_reducible rfl
  rotate_left
  · simp only [Act.put, List.setIfInBounds_toArray, List.set_cons_zero, List.set_cons_succ, i64_w, i32_w]
    rfl
  refine take_ (i := 5) (N := some 8) (v := ?_) (a' := ?_) #[true, true, true, true, true, true, false, false, false, false, false, false, false, false, false] rfl rfl (by kernel_rfl) (fun _ _ _ h => h) (Or.inl ⟨by rfl, ?_⟩) hHeld ?_ ?_
  rotate_left
  · rintro w' ⟨s0, s1, s2, s3, s4, s5⟩
    go_simp
    with_reducible rfl
  rotate_left
  · simp only [Act.put, List.setIfInBounds_toArray, List.set_cons_zero, List.set_cons_succ, i64_w, i32_w]
    rfl
  refine pure_ (i := 7) (N := some 10) (v := ?_) (a' := ?_) #[true, true, true, true, true, true, false, true, false, false, false, false, false, false, false] rfl rfl (by kernel_rfl) (fun _ _ _ h => h) (Or.inl ⟨by rfl, ?_⟩) ?_ ?_
  rotate_left
  · intro w'
    go_simp
    with_reducible rfl
  rotate_left
  · simp only [Act.put, List.setIfInBounds_toArray, List.set_cons_zero, List.set_cons_succ, i64_w, i32_w]
    rfl
  refine take_ (i := 8) (N := some 11) (v := ?_) (a' := ?_) #[true, true, true, true, true, true, false, true, true, false, false, false, false, false, false] rfl rfl (by kernel_rfl) (fun _ _ _ h => h) (Or.inl ⟨by rfl, ?_⟩) hHeld ?_ ?_
  rotate_left
  · rintro w' ⟨s0, s1, s2, s3, s4, s5⟩
    go_simp
    with_reducible rfl
  rotate_left
  · simp only [Act.put, List.setIfInBounds_toArray, List.set_cons_zero, List.set_cons_succ, i64_w, i32_w]
    rfl
  refine pure_ (i := 9) (N := some 12) (v := ?_) (a' := ?_) #[true, true, true, true, true, true, false, true, true, true, false, false, false, false, false] rfl rfl (by kernel_rfl) (fun _ _ _ h => h) (Or.inl ⟨by rfl, ?_⟩) ?_ ?_
  rotate_left
  · intro w'
    go_simp
    with_reducible rfl
  rotate_left
  · simp only [Act.put, List.setIfInBounds_toArray, List.set_cons_zero, List.set_cons_succ, i64_w, i32_w]
    rfl
  refine take_ (i := 10) (N := some 13) (v := ?_) (a' := ?_) #[true, true, true, true, true, true, false, true, true, true, true, false, false, false, false] rfl rfl (by kernel_rfl) (fun _ _ _ h => h) (Or.inl ⟨by rfl, ?_⟩) hHeld ?_ ?_
  rotate_left
  · rintro w' ⟨s0, s1, s2, s3, s4, s5⟩
    go_simp
    with_reducible rfl
  rotate_left
  · simp only [Act.put, List.setIfInBounds_toArray, List.set_cons_zero, List.set_cons_succ, i64_w, i32_w]
    rfl
  refine pure_ (i := 11) (N := some 14) (v := ?_) (a' := ?_) #[true, true, true, true, true, true, false, true, true, true, true, true, false, false, false] rfl rfl (by kernel_rfl) (fun _ _ _ h => h) (Or.inl ⟨by rfl, ?_⟩) ?_ ?_
  rotate_left
  · intro w'
    go_simp
    with_reducible rfl
  rotate_left
  · simp only [Act.put, List.setIfInBounds_toArray, List.set_cons_zero, List.set_cons_succ, i64_w, i32_w]
    rfl
  refine take_ (i := 12) (N := some 15) (v := ?_) (a' := ?_) #[true, true, true, true, true, true, false, true, true, true, true, true, true, false, false] rfl rfl (by kernel_rfl) (fun _ _ _ h => h) (Or.inl ⟨by rfl, ?_⟩) hHeld ?_ ?_
  rotate_left
  · rintro w' ⟨s0, s1, s2, s3, s4, s5⟩
    go_simp
    with_reducible rfl
  rotate_left
  · simp only [Act.put, List.setIfInBounds_toArray, List.set_cons_zero, List.set_cons_succ, i64_w, i32_w]
    rfl
  refine take_ (i := 13) (N := some 16) (v := ?_) (a' := ?_) #[true, true, true, true, true, true, false, true, true, true, true, true, true, true, false] rfl rfl (by kernel_rfl) (fun _ _ _ h => h) (Or.inl ⟨by rfl, ?_⟩) hHeld ?_ ?_
  rotate_left
  · rintro w' ⟨s0, s1, s2, s3, s4, s5⟩
    go_simp
    with_reducible rfl
  rotate_left
  · simp only [Act.put, List.setIfInBounds_toArray, List.set_cons_zero, List.set_cons_succ, i64_w, i32_w]
    rfl
  refine one_ (i := 6) (N := some 9) #[true, true, true, true, true, true, true, true, true, true, true, true, true, true, false] rfl rfl (by kernel_rfl) (by decide) (fun K hK => ?_)
  refine goes_ Try.func38 (by kernel_rfl) rfl #[.agg #[.slice a xs.length c], .int .i64 gen, .int .i64 used] (by rfl) rfl rfl (by (try simp only [List.map_toArray, List.map_cons, List.map_nil]); first | done | rfl) ?_
  refine (HP.out _ hd).mono ?_
  rintro e w1 ⟨rfl, hb1⟩
  refine ⟨_, rfl, ?_⟩
  have B1 := Lib.hid (blk_call hb1 BD.out)
  have P1 := Lib.hid (blk_call hb1 PD.out)
  have F1 := Lib.hid (blk_call hb1 FD.out)
  have s1 := Lib.hid (hd.stay hb1)
  refine hK.out _ _ ⟨blk_cell B1.out (j := 0) rfl, blk_cell B1.out (j := 1) rfl, blk_cell B1.out (j := 2) rfl, blk_cell P1.out (j := 0) rfl, blk_cell F1.out (j := 0) rfl, blk_cell F1.out (j := 1) rfl⟩ (fun hHeld => ?_)
  clear hK K
  refine norm_ (a' := ?_) ?_ ?_
  rotate_left
  · show Act.put _ (some 9) _ = _
    simp only [Act.put, List.setIfInBounds_toArray, List.set_cons_zero, List.set_cons_succ, i64_w, i32_w]
    rfl
  refine last_ (i := 14) (N := some 17) #[true, true, true, true, true, true, true, true, true, true, true, true, true, true, true] rfl rfl (by kernel_rfl) (by decide) (fun K hK => ?_)
  refine goesP_ Try.func50 (by kernel_rfl) rfl #[.pointer (some ⟨gs, 0, none⟩), .int .i64 q, .int .i64 gen, .int .i64 (used + 1), .string p, .agg #[.int .i64 1, .int .i64 fK]] (by rfl) rfl (by (try simp only [List.map_toArray, List.map_cons, List.map_nil]); first | done | rfl) ?_
  refine (HW.out _ B1.out).mono ?_
  rintro e w2 ⟨rfl, hb2⟩
  refine ⟨_, rfl, ?_⟩
  exact ⟨rfl, rfl, bel (show Below w.heap.size w w1 from (bdn (Below.refl _ _) 1).trans ⟨hb1.os, hb1.tape, hb1.output, hb1.size, fun i hi => hb1.block i hi⟩) hb2⟩
set_option maxHeartbeats 4000000 in
theorem app1_crash (gs gp gf : Nat) (v : Value) (xs : List ByteArray) (gen used top : Int) (down : Bool) (p : ByteArray) (fK : Int) (w : World)
    (hB : w.heap[gs]? = some (.cells (SC v gen used top down) 26 (0, 0))) (hP : w.heap[gp]? = some (.cells #[.string p] 9 (0, 0))) (hF : w.heap[gf]? = some (.cells #[.int .i64 2, .int .i64 fK] 45 (0, 0)))
    (hS : SlAt w v 1 xs.length (strs xs)) (hne : ∀ b, v.ownBlock = some b → b ≠ gs) (hl : xs.length ≤ 1000) (g0 : 0 ≤ gen) (g1 : gen ≤ 1000) (u0 : 0 ≤ used) (u1 : used ≤ 900) :
    Calls Try.prog 49 #[.pointer (some ⟨gs, 0, none⟩), .pointer (some ⟨gp, 0, none⟩), .pointer (some ⟨gf, 0, none⟩)] w fun e w' =>
      ∃ v', e = .panicked [{ v := stopV 9, recovered := false }] ∧ w'.heap[gs]? = some (.cells (SC v' gen used top true) 26 (0, 0)) ∧ SlAt w' v' 1 (tearL xs (placeD xs gen used) (sealS gen (used + 1) p) fK).length (strs (tearL xs (placeD xs gen used) (sealS gen (used + 1) p) fK)) ∧ FreshV w.heap.size v' ∧ w.grownBy w' (some gs) := by
  obtain ⟨a, c, rfl, hnc, hcm⟩ := hS.form
  have HB := Lib.hid hB
  have HS := Lib.hid hS
  have hN := Lib.hid hne
  obtain ⟨q, hq⟩ : ∃ q, q = placeD xs gen used := ⟨_, rfl⟩
  have hpl := fun W (h : SlAt W (Value.slice a xs.length c) 1 xs.length (strs xs)) => place_any _ xs gen used W h hl g0 g1 u0 (by omega)
  rw [← hq] at hpl ⊢
  have HP := Lib.hid hpl
  have hw64 : wrap64 (used + 1) = used + 1 := by unfold wrap64; omega
  have hwi : IntKind.i64.wrap (used + 1) = used + 1 := by rw [IntKind.wrap_i64]; omega
  obtain ⟨ys, hys⟩ : ∃ ys, ys = tearL xs q (sealS gen (used + 1) p) fK := ⟨_, rfl⟩
  have hwr := fun W (hb : W.heap[gs]? = some (.cells (SC (Value.slice a xs.length c) gen used top down) 26 (0, 0))) (h : SlAt W (Value.slice a xs.length c) 1 xs.length (strs xs)) => swrite_crash gs (Value.slice a xs.length c) xs gen used top down q gen (used + 1) p fK W hb h hN.out
  rw [← hys] at hwr ⊢
  have HW := Lib.hid hwr
  have b0 : w.drew.cell? ⟨gs, 0, none⟩ = some (Value.slice a xs.length c) := blk_cell (show w.drew.heap[gs]? = _ from hB) (j := 0) rfl
  have b1 : w.drew.cell? ⟨gs, 1, none⟩ = some (.int .i64 gen) := blk_cell (show w.drew.heap[gs]? = _ from hB) (j := 1) rfl
  have b2 : w.drew.cell? ⟨gs, 2, none⟩ = some (.int .i64 used) := blk_cell (show w.drew.heap[gs]? = _ from hB) (j := 2) rfl
  have hd : SlAt w.drew (Value.slice a xs.length c) 1 xs.length (strs xs) := hS.stay (bdn (Below.refl _ _) 1)
  have BD : Hid (w.drew.heap[gs]? = some (.cells (SC (Value.slice a xs.length c) gen used top down) 26 (0, 0))) := Lib.hid hB
  have PD : Hid (w.drew.heap[gp]? = some (.cells #[.string p] 9 (0, 0))) := Lib.hid hP
  have FD : Hid (w.drew.heap[gf]? = some (.cells #[.int .i64 2, .int .i64 fK] 45 (0, 0))) := Lib.hid hF
  have b3 : w.drew.cell? ⟨gp, 0, none⟩ = some (.string p) := blk_cell (show w.drew.heap[gp]? = _ from hP) (j := 0) rfl
  have b4 : w.drew.cell? ⟨gf, 0, none⟩ = some (.int .i64 2) := blk_cell (show w.drew.heap[gf]? = _ from hF) (j := 0) rfl
  have b5 : w.drew.cell? ⟨gf, 1, none⟩ = some (.int .i64 fK) := blk_cell (show w.drew.heap[gf]? = _ from hF) (j := 1) rfl
  clear hpl hwr hS hB hP hF hne hq hys hl g0 g1 u0 u1
  go_enter Try.func49, Try.ntmps49
  go_wp2
  refine start_ (n := 15) (S := fun w' => w'.cell? ⟨gs, 0, none⟩ = some (Value.slice a xs.length c) ∧ w'.cell? ⟨gs, 1, none⟩ = some (.int .i64 gen) ∧ w'.cell? ⟨gs, 2, none⟩ = some (.int .i64 used) ∧ w'.cell? ⟨gp, 0, none⟩ = some (.string p) ∧ w'.cell? ⟨gf, 0, none⟩ = some (.int .i64 2) ∧ w'.cell? ⟨gf, 1, none⟩ = some (.int .i64 fK)) (ds := [14]) #[false, false, false, false, false, false, false, false, false, false, false, false, false, false, false] (by kernel_rfl) rfl rfl ⟨b0, b1, b2, b3, b4, b5⟩ (fun hHeld => ?_)
  refine pure_ (i := 0) (N := some 3) (v := ?_) (a' := ?_) #[true, false, false, false, false, false, false, false, false, false, false, false, false, false, false] rfl rfl (by kernel_rfl) (fun _ _ _ h => h) (Or.inl ⟨by rfl, ?_⟩) ?_ ?_
  rotate_left
  · intro w'
    go_simp
    with_reducible rfl
  rotate_left
  · simp only [Act.put, List.setIfInBounds_toArray, List.set_cons_zero, List.set_cons_succ, i64_w, i32_w]
    rfl
  refine take_ (i := 1) (N := some 4) (v := ?_) (a' := ?_) #[true, true, false, false, false, false, false, false, false, false, false, false, false, false, false] rfl rfl (by kernel_rfl) (fun _ _ _ h => h) (Or.inl ⟨by rfl, ?_⟩) hHeld ?_ ?_
  rotate_left
  · rintro w' ⟨s0, s1, s2, s3, s4, s5⟩
    go_simp
    with_reducible rfl
  rotate_left
  · simp only [Act.put, List.setIfInBounds_toArray, List.set_cons_zero, List.set_cons_succ, i64_w, i32_w]
    rfl
  refine pure_ (i := 2) (N := some 5) (v := ?_) (a' := ?_) #[true, true, true, false, false, false, false, false, false, false, false, false, false, false, false] rfl rfl (by kernel_rfl) (fun _ _ _ h => h) (Or.inl ⟨by rfl, ?_⟩) ?_ ?_
  rotate_left
  · intro w'
    go_simp
    with_reducible rfl
  rotate_left
  · simp only [Act.put, List.setIfInBounds_toArray, List.set_cons_zero, List.set_cons_succ, i64_w, i32_w]
    rfl
  refine take_ (i := 3) (N := some 6) (v := ?_) (a' := ?_) #[true, true, true, true, false, false, false, false, false, false, false, false, false, false, false] rfl rfl (by kernel_rfl) (fun _ _ _ h => h) (Or.inl ⟨by rfl, ?_⟩) hHeld ?_ ?_
  rotate_left
  · rintro w' ⟨s0, s1, s2, s3, s4, s5⟩
    go_simp
    with_reducible rfl
  rotate_left
  · simp only [Act.put, List.setIfInBounds_toArray, List.set_cons_zero, List.set_cons_succ, i64_w, i32_w]
    rfl
  refine pure_ (i := 4) (N := some 7) (v := ?_) (a' := ?_) #[true, true, true, true, true, false, false, false, false, false, false, false, false, false, false] rfl rfl (by kernel_rfl) (fun _ _ _ h => h) (Or.inl ⟨by rfl, ?_⟩) ?_ ?_
  rotate_left
  · intro w'
    go_simp
    with_reducible rfl
  rotate_left
  · simp only [Act.put, List.setIfInBounds_toArray, List.set_cons_zero, List.set_cons_succ, i64_w, i32_w]
    rfl
  refine take_ (i := 5) (N := some 8) (v := ?_) (a' := ?_) #[true, true, true, true, true, true, false, false, false, false, false, false, false, false, false] rfl rfl (by kernel_rfl) (fun _ _ _ h => h) (Or.inl ⟨by rfl, ?_⟩) hHeld ?_ ?_
  rotate_left
  · rintro w' ⟨s0, s1, s2, s3, s4, s5⟩
    go_simp
    with_reducible rfl
  rotate_left
  · simp only [Act.put, List.setIfInBounds_toArray, List.set_cons_zero, List.set_cons_succ, i64_w, i32_w]
    rfl
  refine pure_ (i := 7) (N := some 10) (v := ?_) (a' := ?_) #[true, true, true, true, true, true, false, true, false, false, false, false, false, false, false] rfl rfl (by kernel_rfl) (fun _ _ _ h => h) (Or.inl ⟨by rfl, ?_⟩) ?_ ?_
  rotate_left
  · intro w'
    go_simp
    with_reducible rfl
  rotate_left
  · simp only [Act.put, List.setIfInBounds_toArray, List.set_cons_zero, List.set_cons_succ, i64_w, i32_w]
    rfl
  refine take_ (i := 8) (N := some 11) (v := ?_) (a' := ?_) #[true, true, true, true, true, true, false, true, true, false, false, false, false, false, false] rfl rfl (by kernel_rfl) (fun _ _ _ h => h) (Or.inl ⟨by rfl, ?_⟩) hHeld ?_ ?_
  rotate_left
  · rintro w' ⟨s0, s1, s2, s3, s4, s5⟩
    go_simp
    with_reducible rfl
  rotate_left
  · simp only [Act.put, List.setIfInBounds_toArray, List.set_cons_zero, List.set_cons_succ, i64_w, i32_w]
    rfl
  refine pure_ (i := 9) (N := some 12) (v := ?_) (a' := ?_) #[true, true, true, true, true, true, false, true, true, true, false, false, false, false, false] rfl rfl (by kernel_rfl) (fun _ _ _ h => h) (Or.inl ⟨by rfl, ?_⟩) ?_ ?_
  rotate_left
  · intro w'
    go_simp
    with_reducible rfl
  rotate_left
  · simp only [Act.put, List.setIfInBounds_toArray, List.set_cons_zero, List.set_cons_succ, i64_w, i32_w]
    rfl
  refine take_ (i := 10) (N := some 13) (v := ?_) (a' := ?_) #[true, true, true, true, true, true, false, true, true, true, true, false, false, false, false] rfl rfl (by kernel_rfl) (fun _ _ _ h => h) (Or.inl ⟨by rfl, ?_⟩) hHeld ?_ ?_
  rotate_left
  · rintro w' ⟨s0, s1, s2, s3, s4, s5⟩
    go_simp
    with_reducible rfl
  rotate_left
  · simp only [Act.put, List.setIfInBounds_toArray, List.set_cons_zero, List.set_cons_succ, i64_w, i32_w]
    rfl
  refine pure_ (i := 11) (N := some 14) (v := ?_) (a' := ?_) #[true, true, true, true, true, true, false, true, true, true, true, true, false, false, false] rfl rfl (by kernel_rfl) (fun _ _ _ h => h) (Or.inl ⟨by rfl, ?_⟩) ?_ ?_
  rotate_left
  · intro w'
    go_simp
    with_reducible rfl
  rotate_left
  · simp only [Act.put, List.setIfInBounds_toArray, List.set_cons_zero, List.set_cons_succ, i64_w, i32_w]
    rfl
  refine take_ (i := 12) (N := some 15) (v := ?_) (a' := ?_) #[true, true, true, true, true, true, false, true, true, true, true, true, true, false, false] rfl rfl (by kernel_rfl) (fun _ _ _ h => h) (Or.inl ⟨by rfl, ?_⟩) hHeld ?_ ?_
  rotate_left
  · rintro w' ⟨s0, s1, s2, s3, s4, s5⟩
    go_simp
    with_reducible rfl
  rotate_left
  · simp only [Act.put, List.setIfInBounds_toArray, List.set_cons_zero, List.set_cons_succ, i64_w, i32_w]
    rfl
  refine take_ (i := 13) (N := some 16) (v := ?_) (a' := ?_) #[true, true, true, true, true, true, false, true, true, true, true, true, true, true, false] rfl rfl (by kernel_rfl) (fun _ _ _ h => h) (Or.inl ⟨by rfl, ?_⟩) hHeld ?_ ?_
  rotate_left
  · rintro w' ⟨s0, s1, s2, s3, s4, s5⟩
    go_simp
    with_reducible rfl
  rotate_left
  · simp only [Act.put, List.setIfInBounds_toArray, List.set_cons_zero, List.set_cons_succ, i64_w, i32_w]
    rfl
  refine one_ (i := 6) (N := some 9) #[true, true, true, true, true, true, true, true, true, true, true, true, true, true, false] rfl rfl (by kernel_rfl) (by decide) (fun K hK => ?_)
  refine goes_ Try.func38 (by kernel_rfl) rfl #[.agg #[.slice a xs.length c], .int .i64 gen, .int .i64 used] (by rfl) rfl rfl (by (try simp only [List.map_toArray, List.map_cons, List.map_nil]); first | done | rfl) ?_
  refine (HP.out _ hd).mono ?_
  rintro e w1 ⟨rfl, hb1⟩
  refine ⟨_, rfl, ?_⟩
  have B1 := Lib.hid (blk_call hb1 BD.out)
  have P1 := Lib.hid (blk_call hb1 PD.out)
  have F1 := Lib.hid (blk_call hb1 FD.out)
  have s1 := Lib.hid (hd.stay hb1)
  refine hK.out _ _ ⟨blk_cell B1.out (j := 0) rfl, blk_cell B1.out (j := 1) rfl, blk_cell B1.out (j := 2) rfl, blk_cell P1.out (j := 0) rfl, blk_cell F1.out (j := 0) rfl, blk_cell F1.out (j := 1) rfl⟩ (fun hHeld => ?_)
  clear hK K
  refine norm_ (a' := ?_) ?_ ?_
  rotate_left
  · show Act.put _ (some 9) _ = _
    simp only [Act.put, List.setIfInBounds_toArray, List.set_cons_zero, List.set_cons_succ, i64_w, i32_w]
    rfl
  refine last_ (i := 14) (N := some 17) #[true, true, true, true, true, true, true, true, true, true, true, true, true, true, true] rfl rfl (by kernel_rfl) (by decide) (fun K hK => ?_)
  refine goesP_ Try.func50 (by kernel_rfl) rfl #[.pointer (some ⟨gs, 0, none⟩), .int .i64 q, .int .i64 gen, .int .i64 (used + 1), .string p, .agg #[.int .i64 2, .int .i64 fK]] (by rfl) rfl (by (try simp only [List.map_toArray, List.map_cons, List.map_nil]); first | done | rfl) ?_
  refine (HW.out _ B1.out s1.out).mono ?_
  rintro e w2 ⟨v2, rfl, hB2, hS2, hF2, hG2⟩
  refine ⟨_, rfl, ?_⟩
  exact ⟨rfl, v2, rfl, hB2, hS2, hF2.mono (show w.drew.heap.size ≤ _ from hb1.size), (gr_bel (row := some gs) (show Below w.heap.size w w1 from (bdn (Below.refl _ _) 1).trans ⟨hb1.os, hb1.tape, hb1.output, hb1.size, fun i hi => hb1.block i hi⟩)).trans hG2⟩
theorem gr_setnew {w w1 : World} {r : Option Nat} (h : w.grownBy w1 r) {b j : Nat} (hb : w.heap.size ≤ b) (u : Value) : w.grownBy (w1.setCell ⟨b, j, none⟩ u) r :=
  ⟨h.os, h.tape, h.output, by have := h.size; simpa [World.setCell] using this, fun i hi hne => (Below.heap_setCell w1 ⟨b, j, none⟩ u i (by show i ≠ b; omega)).trans (h.block i hi hne)⟩
theorem astop_ok (gs gp gf : Nat) (v : Value) (xs : List ByteArray) (gen used top : Int) (down : Bool) (p : ByteArray) (fk fK : Int) (w : World)
    (hB : w.heap[gs]? = some (.cells (SC v gen used top down) 26 (0, 0))) (hP : w.heap[gp]? = some (.cells #[.string p] 9 (0, 0))) (hF : w.heap[gf]? = some (.cells #[.int .i64 fk, .int .i64 fK] 45 (0, 0)))
    (hS : SlAt w v 1 xs.length (strs xs)) (hne : ∀ b, v.ownBlock = some b → b ≠ gs) (hl : xs.length ≤ 1000) (g0 : 0 ≤ gen) (g1 : gen ≤ 1000) (u0 : 0 ≤ used) (u1 : used ≤ 900) (h1 : fk ≠ 1) (h2 : fk ≠ 2) :
    Calls Try.prog 48 #[.func (.func 49) #[] #[.pointer (some ⟨gs, 0, none⟩), .pointer (some ⟨gp, 0, none⟩), .pointer (some ⟨gf, 0, none⟩)]] w fun e w' =>
      ∃ v', e = .returned (.int .i64 0) ∧ w'.heap[gs]? = some (.cells (SC v' gen (used + 1) top down) 26 (0, 0)) ∧ SlAt w' v' 1 (tearL xs (placeD xs gen used) (sealS gen (used + 1) p) 128).length (strs (tearL xs (placeD xs gen used) (sealS gen (used + 1) p) 128)) ∧ FreshV w.heap.size v' ∧ w.grownBy w' (some gs) := by
  have ha := app1_ok gs gp gf v xs gen used top down p fk fK (w.alloc (.cells #[.int .i64 0] 29)) (blk_alloc _ hB) (blk_alloc _ hP) (blk_alloc _ hF) (hS.alloc _) hne hl g0 g1 u0 u1 h1 h2
  have he : Enters Try.prog 49 := enters_of Try.func49 (by kernel_rfl) rfl
  have hg : gs < w.heap.size := blk_lt hB
  have hsz : (w.alloc (.cells #[.int .i64 0] 29)).heap.size = w.heap.size + 1 := size_alloc _ _
  obtain ⟨ys, hys⟩ : ∃ ys, ys = tearL xs (placeD xs gen used) (sealS gen (used + 1) p) 128 := ⟨_, rfl⟩
  rw [← hys] at ha ⊢
  refine (stop_ret _ _ w (fun w1 => ∃ v', w1.heap[gs]? = some (.cells (SC v' gen (used + 1) top down) 26 (0, 0)) ∧ SlAt w1 v' 1 ys.length (strs ys) ∧ FreshV (w.heap.size + 1) v' ∧ (w.alloc (.cells #[.int .i64 0] 29)).grownBy w1 (some gs)) he (ha.mono ?_)).mono ?_
  · rintro e w' ⟨v', rfl, k1, k2, k3, k4⟩
    exact ⟨rfl, (k4.block w.heap.size (by omega) (fun e => by have := Option.some.inj e; omega)).trans (blk_new w _), v', k1, k2, k3.mono (by omega), k4⟩
  · rintro e w' ⟨w1, ⟨v', k1, k2, k3, k4⟩, rfl, rfl⟩
    exact ⟨v', rfl, blk_set_far k1 (by show gs ≠ w.heap.size; omega) _, k2.store (p := ⟨w.heap.size, 0, none⟩) (fun b hb => by have := k3 b hb; show b ≠ w.heap.size; omega) _, k3.mono (by omega), gr_setnew ((gr_bel (row := some gs) (bal (Below.refl w.heap.size w) _)).trans k4) (Nat.le_refl _) _⟩
theorem astop_crash (gs gp gf : Nat) (v : Value) (xs : List ByteArray) (gen used top : Int) (down : Bool) (p : ByteArray) (fK : Int) (w : World)
    (hB : w.heap[gs]? = some (.cells (SC v gen used top down) 26 (0, 0))) (hP : w.heap[gp]? = some (.cells #[.string p] 9 (0, 0))) (hF : w.heap[gf]? = some (.cells #[.int .i64 2, .int .i64 fK] 45 (0, 0)))
    (hS : SlAt w v 1 xs.length (strs xs)) (hne : ∀ b, v.ownBlock = some b → b ≠ gs) (hl : xs.length ≤ 1000) (g0 : 0 ≤ gen) (g1 : gen ≤ 1000) (u0 : 0 ≤ used) (u1 : used ≤ 900) :
    Calls Try.prog 48 #[.func (.func 49) #[] #[.pointer (some ⟨gs, 0, none⟩), .pointer (some ⟨gp, 0, none⟩), .pointer (some ⟨gf, 0, none⟩)]] w fun e w' =>
      ∃ v', e = .returned (.int .i64 9) ∧ w'.heap[gs]? = some (.cells (SC v' gen used top true) 26 (0, 0)) ∧ SlAt w' v' 1 (tearL xs (placeD xs gen used) (sealS gen (used + 1) p) fK).length (strs (tearL xs (placeD xs gen used) (sealS gen (used + 1) p) fK)) ∧ FreshV w.heap.size v' ∧ w.grownBy w' (some gs) := by
  have ha := app1_crash gs gp gf v xs gen used top down p fK (w.alloc (.cells #[.int .i64 0] 29)) (blk_alloc _ hB) (blk_alloc _ hP) (blk_alloc _ hF) (hS.alloc _) hne hl g0 g1 u0 u1
  have he : Enters Try.prog 49 := enters_of Try.func49 (by kernel_rfl) rfl
  have hg : gs < w.heap.size := blk_lt hB
  have hsz : (w.alloc (.cells #[.int .i64 0] 29)).heap.size = w.heap.size + 1 := size_alloc _ _
  obtain ⟨ys, hys⟩ : ∃ ys, ys = tearL xs (placeD xs gen used) (sealS gen (used + 1) p) fK := ⟨_, rfl⟩
  rw [← hys] at ha ⊢
  refine (stop_pan _ _ 9 w (fun w1 => ∃ v', w1.heap[gs]? = some (.cells (SC v' gen used top true) 26 (0, 0)) ∧ SlAt w1 v' 1 ys.length (strs ys) ∧ FreshV (w.heap.size + 1) v' ∧ (w.alloc (.cells #[.int .i64 0] 29)).grownBy w1 (some gs)) he (ha.mono ?_)).mono ?_
  · rintro e w' ⟨v', rfl, k1, k2, k3, k4⟩
    exact ⟨rfl, (k4.block w.heap.size (by omega) (fun e => by have := Option.some.inj e; omega)).trans (blk_new w _), v', k1, k2, k3.mono (by omega), k4⟩
  · rintro e w' ⟨w1, ⟨v', k1, k2, k3, k4⟩, rfl, rfl⟩
    exact ⟨v', rfl, blk_set_far (blk_alloc _ k1) (by show gs ≠ w.heap.size; omega) _, (k2.alloc _).store (p := ⟨w.heap.size, 0, none⟩) (fun b hb => by have := k3 b hb; show b ≠ w.heap.size; omega) _, k3.mono (by omega), gr_setnew (((gr_bel (row := some gs) (bal (Below.refl w.heap.size w) _)).trans k4).trans (gr_bel (bal (Below.refl _ _) _))) (Nat.le_refl _) _⟩
theorem astop_fail (gs gp gf : Nat) (v : Value) (xs : List ByteArray) (gen used top : Int) (down : Bool) (p : ByteArray) (fK : Int) (w : World)
    (hB : w.heap[gs]? = some (.cells (SC v gen used top down) 26 (0, 0))) (hP : w.heap[gp]? = some (.cells #[.string p] 9 (0, 0))) (hF : w.heap[gf]? = some (.cells #[.int .i64 1, .int .i64 fK] 45 (0, 0)))
    (hS : SlAt w v 1 xs.length (strs xs)) (hne : ∀ b, v.ownBlock = some b → b ≠ gs) (hl : xs.length ≤ 1000) (g0 : 0 ≤ gen) (g1 : gen ≤ 1000) (u0 : 0 ≤ used) (u1 : used ≤ 900) :
    Calls Try.prog 48 #[.func (.func 49) #[] #[.pointer (some ⟨gs, 0, none⟩), .pointer (some ⟨gp, 0, none⟩), .pointer (some ⟨gf, 0, none⟩)]] w fun e w' =>
      e = .returned (.int .i64 8) ∧ Below w.heap.size w w' := by
  have ha := app1_fail gs gp gf v xs gen used top down p fK (w.alloc (.cells #[.int .i64 0] 29)) (blk_alloc _ hB) (blk_alloc _ hP) (blk_alloc _ hF) (hS.alloc _) hne hl g0 g1 u0 u1
  have he : Enters Try.prog 49 := enters_of Try.func49 (by kernel_rfl) rfl
  have hg : gs < w.heap.size := blk_lt hB
  have hsz : (w.alloc (.cells #[.int .i64 0] 29)).heap.size = w.heap.size + 1 := size_alloc _ _
  refine (stop_pan _ _ 8 w (fun w1 => Below (w.alloc (.cells #[.int .i64 0] 29)).heap.size (w.alloc (.cells #[.int .i64 0] 29)) w1) he (ha.mono ?_)).mono ?_
  · rintro e w' ⟨rfl, k1⟩
    exact ⟨rfl, blk_call k1 (blk_new w _), k1⟩
  · rintro e w' ⟨w1, k1, rfl, rfl⟩
    exact ⟨rfl, bset (bal (bel (bal (Below.refl w.heap.size w) _) k1) _) (Nat.le_refl _) _⟩
theorem slat_blk {W : World} {b n sz : Nat} {T : TypeId} {cs : List Value} (h : W.heap[b]? = some (.cells cs.toArray T (0, 0))) (hl : cs.length = n * sz) (hn : n ≤ maxLen) : SlAt W (.slice (some ⟨b, 0, none⟩) n n) sz n cs :=
  ⟨hl, some ⟨b, 0, none⟩, n, rfl, Nat.le_refl _, hn, .inr ⟨b, 0, rfl, blk_lt h, fun j u hu => by rw [Nat.zero_add]; exact blk_cell h (by simpa using hu)⟩⟩
theorem al5 (w : World) (o1 o2 o3 o4 o5 o6 : Obj) : ((((((w.alloc o1).alloc o2).alloc o3).alloc o4).alloc o5).alloc o6).heap[w.heap.size + 1 + 1 + 1 + 1]? = some o5 := by
  have := blk_alloc o6 (blk_new ((((w.alloc o1).alloc o2).alloc o3).alloc o4) o5)
  rwa [size_alloc, size_alloc, size_alloc, size_alloc] at this
theorem al6 (w : World) (o1 o2 o3 o4 o5 o6 : Obj) : ((((((w.alloc o1).alloc o2).alloc o3).alloc o4).alloc o5).alloc o6).heap[w.heap.size + 1 + 1 + 1 + 1 + 1]? = some o6 := by
  have := blk_new (((((w.alloc o1).alloc o2).alloc o3).alloc o4).alloc o5) o6
  rwa [size_alloc, size_alloc, size_alloc, size_alloc, size_alloc] at this
theorem al4 (w : World) (o1 o2 o3 o4 o5 o6 : Obj) : ((((((w.alloc o1).alloc o2).alloc o3).alloc o4).alloc o5).alloc o6).heap[w.heap.size + 1 + 1 + 1]? = some o4 := by
  have := blk_alloc o6 (blk_alloc o5 (blk_new (((w.alloc o1).alloc o2).alloc o3) o4))
  rwa [size_alloc, size_alloc, size_alloc] at this
theorem al3 (w : World) (o1 o2 o3 o4 o5 o6 : Obj) : ((((((w.alloc o1).alloc o2).alloc o3).alloc o4).alloc o5).alloc o6).heap[w.heap.size + 1 + 1]? = some o3 := by
  have := blk_alloc o6 (blk_alloc o5 (blk_alloc o4 (blk_new ((w.alloc o1).alloc o2) o3)))
  rwa [size_alloc, size_alloc] at this
theorem al2 (w : World) (o1 o2 o3 o4 o5 o6 : Obj) : ((((((w.alloc o1).alloc o2).alloc o3).alloc o4).alloc o5).alloc o6).heap[w.heap.size + 1]? = some o2 := by
  have := blk_alloc o6 (blk_alloc o5 (blk_alloc o4 (blk_alloc o3 (blk_new (w.alloc o1) o2))))
  rwa [size_alloc] at this
theorem al1 (w : World) (o1 o2 o3 o4 o5 o6 : Obj) : ((((((w.alloc o1).alloc o2).alloc o3).alloc o4).alloc o5).alloc o6).heap[w.heap.size]? = some o1 := blk_alloc o6 (blk_alloc o5 (blk_alloc o4 (blk_alloc o3 (blk_alloc o2 (blk_new w o1)))))
def Sto.zero : Sto := ⟨[], 0, 0, 0, false⟩
def appS (s : Sto) (p : ByteArray) (f : Flt) : Sto × Int :=
  if f.kind = 1 then (s, 8) else if f.kind = 2 then ({ s with xs := tearL s.xs (placeD s.xs s.gen s.used) (sealS s.gen (s.used + 1) p) f.k, down := true }, 9)
  else ({ s with xs := tearL s.xs (placeD s.xs s.gen s.used) (sealS s.gen (s.used + 1) p) 128, used := s.used + 1 }, 0)
def appendS (s : Sto) (p : ByteArray) (f : Flt) : Sto × Int :=
  if mayS s [p] [f] = 0 then (if s.used = areaD s.xs then (Sto.zero, 5) else appS s p f) else (Sto.zero, mayS s [p] [f])
def StoRes (s : Sto) (k : Int) (v : Value) (w : World) (e : Ending) (w' : World) : Prop :=
  ∃ v', e = .returned (.tuple #[s.val v', .int .i64 k]) ∧ (v' = v ∨ FreshV w.heap.size v') ∧ SlAt w' v' 1 s.xs.length (strs s.xs) ∧ Below w.heap.size w w'
theorem append_bad (s : Sto) (v : Value) (p : ByteArray) (f : Flt) (k : Int) (w : World) (hS : SlAt w v 1 s.xs.length (strs s.xs)) (hm : mayS s [p] [f] = k) (hk : k ≠ 0) :
    Calls Try.prog 21 #[s.val v, .string p, fltV f] w (StoRes Sto.zero k v w) := by
  have HM := Lib.hid (fun W v1 v2 (h : SlAt W v 1 s.xs.length (strs s.xs)) (h1 : SlAt W v1 1 1 (strs [p])) (h2 : SlAt W v2 2 1 (fltsC [f])) => by have := storeMay_any s v v1 v2 [p] [f] W h h1 h2; rw [hm] at this; exact this)
  have HS := Lib.hid hS
  obtain ⟨xs, gen, used, top, down⟩ := s
  obtain ⟨fk, fK⟩ := f
  obtain ⟨a, c, rfl, _, _⟩ := hS.form
  have hne : (k != 0) = true := by simpa using hk
  clear hS hm hk
  unfold Sto.val fltV at *
  go_enter Try.func21, Try.ntmps21
  go_wp2_with (first
    | (go_at_call 47; refine (HM.out _ _ _ (HS.out.stay (bal (bal (bal (bal (bal (bal (Below.refl _ _) _) _) _) _) _) _)) (slat_blk (cs := strs [p]) (T := 9) (al5 w _ _ _ _ _ _) rfl (by decide)) (slat_blk (cs := fltsC [⟨fk, fK⟩]) (T := 45) (al6 w _ _ _ _ _ _) rfl (by decide))).mono ?_; rintro e w1 ⟨rfl, hb1⟩; have K4 := Lib.hid (blk_call hb1 (al4 w _ _ _ _ _ _)); have x0 := blk_cell K4.out (j := 0) rfl; have x1 := blk_cell K4.out (j := 1) rfl; have x2 := blk_cell K4.out (j := 2) rfl; have x3 := blk_cell K4.out (j := 3) rfl; have x4 := blk_cell K4.out (j := 4) rfl; have f0 := blk_free K4.out 0; have f1 := blk_free K4.out 1; have f2 := blk_free K4.out 2; have f3 := blk_free K4.out 3; have f4 := blk_free K4.out 4))
  have hw1 := bel (bal (bal (bal (bal (bal (bal (Below.refl w.heap.size w) _) _) _) _) _) _) hb1
  refine bodyPost_ret (v := .tuple #[Sto.zero.val (.slice none 0 0), .int .i64 k]) ?_ rfl ?_
  · simp [results, Try.results21, go_sem, Sto.val, Sto.zero, x0, x1, x2, x3, x4]
  · refine ⟨.slice none 0 0, rfl, .inr (FreshV.nil _ _ _), SlAt.nil _ _, ?_⟩
    exact bset (bset (bset (bset (bset hw1 (show w.heap.size ≤ w.heap.size + 1 + 1 + 1 by omega) _) (show w.heap.size ≤ w.heap.size + 1 + 1 + 1 by omega) _) (show w.heap.size ≤ w.heap.size + 1 + 1 + 1 by omega) _) (show w.heap.size ≤ w.heap.size + 1 + 1 + 1 by omega) _) (show w.heap.size ≤ w.heap.size + 1 + 1 + 1 by omega) _
theorem append_full (s : Sto) (v : Value) (p : ByteArray) (f : Flt) (w : World) (hS : SlAt w v 1 s.xs.length (strs s.xs)) (hm : mayS s [p] [f] = 0) (hu : s.used = areaD s.xs) :
    Calls Try.prog 21 #[s.val v, .string p, fltV f] w (StoRes Sto.zero 5 v w) := by
  have HM := Lib.hid (fun W v1 v2 (h : SlAt W v 1 s.xs.length (strs s.xs)) (h1 : SlAt W v1 1 1 (strs [p])) (h2 : SlAt W v2 2 1 (fltsC [f])) => by have := storeMay_any s v v1 v2 [p] [f] W h h1 h2; rw [hm] at this; exact this)
  have HS := Lib.hid hS
  obtain ⟨xs, gen, used, top, down⟩ := s
  obtain ⟨fk, fK⟩ := f
  obtain ⟨a, c, rfl, _, _⟩ := hS.form
  simp only at hu HS HM
  have HA := Lib.hid (fun W (h : SlAt W (Value.slice a xs.length c) 1 xs.length (strs xs)) => area_any _ xs W h)
  rw [← hu] at HA
  clear hS hm hu
  unfold Sto.val fltV at *
  go_enter Try.func21, Try.ntmps21
  go_wp2_with (first
    | (go_at_call 47; refine (HM.out _ _ _ (HS.out.stay (bal (bal (bal (bal (bal (bal (Below.refl _ _) _) _) _) _) _) _)) (slat_blk (cs := strs [p]) (T := 9) (al5 w _ _ _ _ _ _) rfl (by decide)) (slat_blk (cs := fltsC [⟨fk, fK⟩]) (T := 45) (al6 w _ _ _ _ _ _) rfl (by decide))).mono ?_; rintro e w1 ⟨rfl, hb1⟩; have K4 := Lib.hid (blk_call hb1 (al4 w _ _ _ _ _ _)); have K1 := Lib.hid (blk_call hb1 (al1 w _ _ _ _ _ _)); have y0 : w1.drew.cell? ⟨w.heap.size, 0, none⟩ = some (Value.slice a xs.length c) := blk_cell (show w1.drew.heap[w.heap.size]? = _ from K1.out) (j := 0) rfl; have y2 : w1.drew.cell? ⟨w.heap.size, 2, none⟩ = some (.int .i64 used) := blk_cell (show w1.drew.heap[w.heap.size]? = _ from K1.out) (j := 2) rfl))
  have hw1 := bel (bal (bal (bal (bal (bal (bal (Below.refl w.heap.size w) _) _) _) _) _) _) hb1
  have hd1 : SlAt w1.drew (Value.slice a xs.length c) 1 xs.length (strs xs) := HS.out.stay (bdn hw1 1)
  refine start_ (n := 6) (S := fun w' => w'.cell? ⟨w.heap.size, 0, none⟩ = some (Value.slice a xs.length c) ∧ w'.cell? ⟨w.heap.size, 2, none⟩ = some (.int .i64 used)) (ds := []) #[false, false, false, false, false, false] (by kernel_rfl) rfl rfl ⟨y0, y2⟩ (fun hHeld => ?_)
  refine pure_ (i := 0) (N := some 20) (v := ?_) (a' := ?_) #[true, false, false, false, false, false] rfl rfl (by kernel_rfl) (fun _ _ _ h => h) (Or.inl ⟨by rfl, ?_⟩) ?_ ?_
  rotate_left
  · intro w'
    go_simp
    with_reducible rfl
  rotate_left
  · simp only [Act.put, List.setIfInBounds_toArray, List.set_cons_zero, List.set_cons_succ, i64_w, i32_w]
    rfl
  refine take_ (i := 1) (N := some 21) (v := ?_) (a' := ?_) #[true, true, false, false, false, false] rfl rfl (by kernel_rfl) (fun _ _ _ h => h) (Or.inl ⟨by rfl, ?_⟩) hHeld ?_ ?_
  rotate_left
  · rintro w' ⟨s0, s1⟩
    go_simp
    with_reducible rfl
  rotate_left
  · simp only [Act.put, List.setIfInBounds_toArray, List.set_cons_zero, List.set_cons_succ, i64_w, i32_w]
    rfl
  refine pure_ (i := 2) (N := some 22) (v := ?_) (a' := ?_) #[true, true, true, false, false, false] rfl rfl (by kernel_rfl) (fun _ _ _ h => h) (Or.inl ⟨by rfl, ?_⟩) ?_ ?_
  rotate_left
  · intro w'
    go_simp
    with_reducible rfl
  rotate_left
  · simp only [Act.put, List.setIfInBounds_toArray, List.set_cons_zero, List.set_cons_succ, i64_w, i32_w]
    rfl
  refine take_ (i := 3) (N := some 23) (v := ?_) (a' := ?_) #[true, true, true, true, false, false] rfl rfl (by kernel_rfl) (fun _ _ _ h => h) (Or.inl ⟨by rfl, ?_⟩) hHeld ?_ ?_
  rotate_left
  · rintro w' ⟨s0, s1⟩
    go_simp
    with_reducible rfl
  rotate_left
  · simp only [Act.put, List.setIfInBounds_toArray, List.set_cons_zero, List.set_cons_succ, i64_w, i32_w]
    rfl
  refine one_ (i := 4) (N := some 24) #[true, true, true, true, true, false] rfl rfl (by kernel_rfl) (by decide) (fun K hK => ?_)
  refine goes_ Try.func37 (by kernel_rfl) rfl #[.agg #[.slice a xs.length c]] (by rfl) rfl rfl (by (try simp only [List.map_toArray, List.map_cons, List.map_nil]); first | done | rfl) ?_
  refine (HA.out _ hd1).mono ?_
  rintro e w2 ⟨rfl, hb2⟩
  refine ⟨_, rfl, ?_⟩
  have J1 := Lib.hid (blk_call hb2 K1.out)
  have J4 := Lib.hid (blk_call hb2 K4.out)
  refine hK.out _ _ ⟨blk_cell J1.out (j := 0) rfl, blk_cell J1.out (j := 2) rfl⟩ (fun hHeld => ?_)
  clear hK K
  refine norm_ (a' := ?_) ?_ ?_
  rotate_left
  · show Act.put _ (some 24) _ = _
    simp only [Act.put, List.setIfInBounds_toArray, List.set_cons_zero, List.set_cons_succ, i64_w, i32_w]
    rfl
  refine pure_ (i := 5) (N := some 25) (v := ?_) (a' := ?_) #[true, true, true, true, true, true] rfl rfl (by kernel_rfl) (fun _ _ _ h => h) (Or.inl ⟨by rfl, ?_⟩) ?_ ?_
  rotate_left
  · intro w'
    go_simp
    with_reducible rfl
  rotate_left
  · simp only [Act.put, List.setIfInBounds_toArray, List.set_cons_zero, List.set_cons_succ, i64_w, i32_w]
    rfl
  refine done_ (by kernel_rfl) ?_
  have x0 := blk_cell J4.out (j := 0) rfl
  have x1 := blk_cell J4.out (j := 1) rfl
  have x2 := blk_cell J4.out (j := 2) rfl
  have x3 := blk_cell J4.out (j := 3) rfl
  have x4 := blk_cell J4.out (j := 4) rfl
  have f0 := blk_free J4.out 0
  have f1 := blk_free J4.out 1
  have f2 := blk_free J4.out 2
  have f3 := blk_free J4.out 3
  have f4 := blk_free J4.out 4
  go_wp2
  have hw2 := bel (bdn hw1 1) hb2
  refine bodyPost_ret (v := .tuple #[Sto.zero.val (.slice none 0 0), .int .i64 5]) ?_ rfl ?_
  · simp [results, Try.results21, go_sem, Sto.val, Sto.zero, x0, x1, x2, x3, x4]
  · refine ⟨.slice none 0 0, rfl, .inr (FreshV.nil _ _ _), SlAt.nil _ _, ?_⟩
    exact bset (bset (bset (bset (bset hw2 (show w.heap.size ≤ w.heap.size + 1 + 1 + 1 by omega) _) (show w.heap.size ≤ w.heap.size + 1 + 1 + 1 by omega) _) (show w.heap.size ≤ w.heap.size + 1 + 1 + 1 by omega) _) (show w.heap.size ≤ w.heap.size + 1 + 1 + 1 by omega) _) (show w.heap.size ≤ w.heap.size + 1 + 1 + 1 by omega) _
set_option maxHeartbeats 8000000 in
theorem append_go (xs ys : List ByteArray) (gen used top used' k : Int) (down down' : Bool) (v : Value) (p : ByteArray) (fk fK : Int) (w : World) (hS : SlAt w v 1 xs.length (strs xs)) (hm : mayS ⟨xs, gen, used, top, down⟩ [p] [⟨fk, fK⟩] = 0) (hu : used ≠ areaD xs)
    (hst : ∀ W : World, w.heap.size ≤ W.heap.size → W.heap[w.heap.size]? = some (.cells (SC v gen used top down) 26 (0, 0)) → W.heap[w.heap.size + 1]? = some (.cells #[.string p] 9 (0, 0)) → W.heap[w.heap.size + 1 + 1]? = some (.cells #[.int .i64 fk, .int .i64 fK] 45 (0, 0)) → SlAt W v 1 xs.length (strs xs) →
      Calls Try.prog 48 #[.func (.func 49) #[] #[.pointer (some ⟨w.heap.size, 0, none⟩), .pointer (some ⟨w.heap.size + 1, 0, none⟩), .pointer (some ⟨w.heap.size + 1 + 1, 0, none⟩)]] W fun e w' =>
        ∃ v', e = .returned (.int .i64 k) ∧ w'.heap[w.heap.size]? = some (.cells (SC v' gen used' top down') 26 (0, 0)) ∧ SlAt w' v' 1 ys.length (strs ys) ∧ ((v' = v ∧ ys = xs) ∨ FreshV W.heap.size v') ∧ W.grownBy w' (some w.heap.size)) :
    Calls Try.prog 21 #[.agg (SC v gen used top down), .string p, .agg #[.int .i64 fk, .int .i64 fK]] w (StoRes ⟨ys, gen, used', top, down'⟩ k v w) := by
  have HM := Lib.hid (fun W v1 v2 (h : SlAt W v 1 xs.length (strs xs)) (h1 : SlAt W v1 1 1 (strs [p])) (h2 : SlAt W v2 2 1 (fltsC [⟨fk, fK⟩])) => by have := storeMay_any ⟨xs, gen, used, top, down⟩ v v1 v2 [p] [⟨fk, fK⟩] W h h1 h2; rw [hm] at this; exact this)
  have HS := Lib.hid hS
  have HT := Lib.hid hst
  obtain ⟨a, c, rfl, _, _⟩ := hS.form
  have HA := Lib.hid (fun W (h : SlAt W (Value.slice a xs.length c) 1 xs.length (strs xs)) => area_any _ xs W h)
  obtain ⟨A, hA⟩ : ∃ A, A = areaD xs := ⟨_, rfl⟩
  rw [← hA] at HA hu
  have hne : (used == A) = false := by simpa using hu
  have hmf : ∀ (fn : Fn) (first cap : Array Value) (w : World), (Instr.makeFunc fn first cap).run Try.prog w = .ok (.func fn first cap) w := fun _ _ _ _ => rfl
  clear hS hm hu hA hst
  unfold Sto.val at *
  go_enter Try.func21, Try.ntmps21
  go_wp2_with (first
    | (go_at_call 47; refine (HM.out _ _ _ (HS.out.stay (bal (bal (bal (bal (bal (bal (Below.refl _ _) _) _) _) _) _) _)) (slat_blk (cs := strs [p]) (T := 9) (al5 w _ _ _ _ _ _) rfl (by decide)) (slat_blk (cs := fltsC [⟨fk, fK⟩]) (T := 45) (al6 w _ _ _ _ _ _) rfl (by decide))).mono ?_; rintro e w1 ⟨rfl, hb1⟩; have K4 := Lib.hid (blk_call hb1 (al4 w _ _ _ _ _ _)); have K1 := Lib.hid (blk_call hb1 (al1 w _ _ _ _ _ _)); have K2 := Lib.hid (blk_call hb1 (al2 w _ _ _ _ _ _)); have K3 := Lib.hid (blk_call hb1 (al3 w _ _ _ _ _ _)); have y0 : w1.drew.cell? ⟨w.heap.size, 0, none⟩ = some (Value.slice a xs.length c) := blk_cell (show w1.drew.heap[w.heap.size]? = _ from K1.out) (j := 0) rfl; have y2 : w1.drew.cell? ⟨w.heap.size, 2, none⟩ = some (.int .i64 used) := blk_cell (show w1.drew.heap[w.heap.size]? = _ from K1.out) (j := 2) rfl))
  have hw1 := bel (bal (bal (bal (bal (bal (bal (Below.refl w.heap.size w) _) _) _) _) _) _) hb1
  have hd1 : SlAt w1.drew (Value.slice a xs.length c) 1 xs.length (strs xs) := HS.out.stay (bdn hw1 1)
  refine start_ (n := 6) (S := fun w' => w'.cell? ⟨w.heap.size, 0, none⟩ = some (Value.slice a xs.length c) ∧ w'.cell? ⟨w.heap.size, 2, none⟩ = some (.int .i64 used)) (ds := []) #[false, false, false, false, false, false] (by kernel_rfl) rfl rfl ⟨y0, y2⟩ (fun hHeld => ?_)
  refine pure_ (i := 0) (N := some 20) (v := ?_) (a' := ?_) #[true, false, false, false, false, false] rfl rfl (by kernel_rfl) (fun _ _ _ h => h) (Or.inl ⟨by rfl, ?_⟩) ?_ ?_
  rotate_left
  · intro w'
    go_simp
    with_reducible rfl
  rotate_left
  · simp only [Act.put, List.setIfInBounds_toArray, List.set_cons_zero, List.set_cons_succ, i64_w, i32_w]
    rfl
  refine take_ (i := 1) (N := some 21) (v := ?_) (a' := ?_) #[true, true, false, false, false, false] rfl rfl (by kernel_rfl) (fun _ _ _ h => h) (Or.inl ⟨by rfl, ?_⟩) hHeld ?_ ?_
  rotate_left
  · rintro w' ⟨s0, s1⟩
    go_simp
    with_reducible rfl
  rotate_left
  · simp only [Act.put, List.setIfInBounds_toArray, List.set_cons_zero, List.set_cons_succ, i64_w, i32_w]
    rfl
  refine pure_ (i := 2) (N := some 22) (v := ?_) (a' := ?_) #[true, true, true, false, false, false] rfl rfl (by kernel_rfl) (fun _ _ _ h => h) (Or.inl ⟨by rfl, ?_⟩) ?_ ?_
  rotate_left
  · intro w'
    go_simp
    with_reducible rfl
  rotate_left
  · simp only [Act.put, List.setIfInBounds_toArray, List.set_cons_zero, List.set_cons_succ, i64_w, i32_w]
    rfl
  refine take_ (i := 3) (N := some 23) (v := ?_) (a' := ?_) #[true, true, true, true, false, false] rfl rfl (by kernel_rfl) (fun _ _ _ h => h) (Or.inl ⟨by rfl, ?_⟩) hHeld ?_ ?_
  rotate_left
  · rintro w' ⟨s0, s1⟩
    go_simp
    with_reducible rfl
  rotate_left
  · simp only [Act.put, List.setIfInBounds_toArray, List.set_cons_zero, List.set_cons_succ, i64_w, i32_w]
    rfl
  refine one_ (i := 4) (N := some 24) #[true, true, true, true, true, false] rfl rfl (by kernel_rfl) (by decide) (fun K hK => ?_)
  refine goes_ Try.func37 (by kernel_rfl) rfl #[.agg #[.slice a xs.length c]] (by rfl) rfl rfl (by (try simp only [List.map_toArray, List.map_cons, List.map_nil]); first | done | rfl) ?_
  refine (HA.out _ hd1).mono ?_
  rintro e w2 ⟨rfl, hb2⟩
  refine ⟨_, rfl, ?_⟩
  have J1 := Lib.hid (blk_call hb2 K1.out)
  have J4 := Lib.hid (blk_call hb2 K4.out)
  refine hK.out _ _ ⟨blk_cell J1.out (j := 0) rfl, blk_cell J1.out (j := 2) rfl⟩ (fun hHeld => ?_)
  clear hK K
  refine norm_ (a' := ?_) ?_ ?_
  rotate_left
  · show Act.put _ (some 24) _ = _
    simp only [Act.put, List.setIfInBounds_toArray, List.set_cons_zero, List.set_cons_succ, i64_w, i32_w]
    rfl
  refine pure_ (i := 5) (N := some 25) (v := ?_) (a' := ?_) #[true, true, true, true, true, true] rfl rfl (by kernel_rfl) (fun _ _ _ h => h) (Or.inl ⟨by rfl, ?_⟩) ?_ ?_
  rotate_left
  · intro w'
    go_simp
    with_reducible rfl
  rotate_left
  · simp only [Act.put, List.setIfInBounds_toArray, List.set_cons_zero, List.set_cons_succ, i64_w, i32_w]
    rfl
  refine done_ (by kernel_rfl) ?_
  have J2 := Lib.hid (blk_call hb2 K2.out)
  have J3 := Lib.hid (blk_call hb2 K3.out)
  have hw2 := bel (bdn hw1 1) hb2
  go_wp2_with (go_at_call 48; refine (HT.out _ hw2.size J1.out J2.out J3.out (HS.out.stay hw2)).mono ?_; rintro e w3 ⟨v3, rfl, hB3, hS3, hF3, hG3⟩; obtain ⟨a3, c3, rfl, _, _⟩ := hS3.form; have X4 := Lib.hid ((hG3.block (w.heap.size + 1 + 1 + 1) (blk_lt J4.out) (fun e => by have := Option.some.inj e; omega)).trans J4.out); have B3 := Lib.hid hB3; have q0 : w3.cell? ⟨w.heap.size, 0, none⟩ = some (Value.slice a3 ys.length c3) := blk_cell B3.out (j := 0) rfl; have q1 : w3.cell? ⟨w.heap.size, 1, none⟩ = some (Value.int .i64 gen) := blk_cell B3.out (j := 1) rfl; have q2 : w3.cell? ⟨w.heap.size, 2, none⟩ = some (Value.int .i64 used') := blk_cell B3.out (j := 2) rfl; have q3 : w3.cell? ⟨w.heap.size, 3, none⟩ = some (Value.int .i64 top) := blk_cell B3.out (j := 3) rfl; have q4 : w3.cell? ⟨w.heap.size, 4, none⟩ = some (Value.bool down') := blk_cell B3.out (j := 4) rfl; have x0 := blk_cell X4.out (j := 0) rfl; have x1 := blk_cell X4.out (j := 1) rfl; have x2 := blk_cell X4.out (j := 2) rfl; have x3 := blk_cell X4.out (j := 3) rfl; have x4 := blk_cell X4.out (j := 4) rfl; have f0 := blk_free X4.out 0; have f1 := blk_free X4.out 1; have f2 := blk_free X4.out 2; have f3 := blk_free X4.out 3; have f4 := blk_free X4.out 4; clear hB3)
  refine bodyPost_ret (v := .tuple #[.agg (SC (.slice a3 ys.length c3) gen used' top down'), .int .i64 k]) ?_ rfl ?_
  · simp [results, Try.results21, go_sem, x0, x1, x2, x3, x4]
  · have hn := blk_lt J4.out
    have hw3 : Below w.heap.size w w3 := ⟨hG3.os.trans hw2.os, hG3.tape.trans hw2.tape, hG3.output.trans hw2.output, Nat.le_trans hw2.size hG3.size, fun i hi => (hG3.block i (Nat.lt_of_lt_of_le hi hw2.size) (fun e => by have := Option.some.inj e; omega)).trans (hw2.block i hi)⟩
    have hb4 := bset (bset (bset (bset (bset hw3 (show w.heap.size ≤ w.heap.size + 1 + 1 + 1 by omega) (.slice a3 ys.length c3) (p := ⟨w.heap.size + 1 + 1 + 1, 0, none⟩)) (show w.heap.size ≤ w.heap.size + 1 + 1 + 1 by omega) (.int .i64 gen) (p := ⟨w.heap.size + 1 + 1 + 1, 1, none⟩)) (show w.heap.size ≤ w.heap.size + 1 + 1 + 1 by omega) (.int .i64 used') (p := ⟨w.heap.size + 1 + 1 + 1, 2, none⟩)) (show w.heap.size ≤ w.heap.size + 1 + 1 + 1 by omega) (.int .i64 top) (p := ⟨w.heap.size + 1 + 1 + 1, 3, none⟩)) (show w.heap.size ≤ w.heap.size + 1 + 1 + 1 by omega) (.bool down') (p := ⟨w.heap.size + 1 + 1 + 1, 4, none⟩)
    refine ⟨.slice a3 ys.length c3, rfl, hF3.elim (fun h => .inl h.1) (fun h => .inr (h.mono hw2.size)), ?_, hb4⟩
    rcases hF3 with ⟨h1, rfl⟩ | h1
    · injection h1 with e1 _ e3
      subst e1 e3
      exact HS.out.stay hb4
    · have hd : ∀ b, (Value.slice a3 ys.length c3).ownBlock = some b → b ≠ w.heap.size + 1 + 1 + 1 := fun b hb => by have := h1 b hb; omega
      exact ((((hS3.store (p := ⟨w.heap.size + 1 + 1 + 1, 0, none⟩) hd _).store (p := ⟨w.heap.size + 1 + 1 + 1, 1, none⟩) hd _).store (p := ⟨w.heap.size + 1 + 1 + 1, 2, none⟩) hd _).store (p := ⟨w.heap.size + 1 + 1 + 1, 3, none⟩) hd _).store (p := ⟨w.heap.size + 1 + 1 + 1, 4, none⟩) hd _
end Go.Proofs.Ytopaddpclipnjaa
namespace Go.Proofs.Ytopaddpclipnjaa
open Go.RowKit
theorem mayS_ok {s : Sto} {l : List ByteArray} {fs : List Flt} (h : mayS s l fs = 0) : s.okB = true ∧ fs.all fltB = true ∧ (l.all fun p => decide (p.size ≤ 96)) = true ∧ s.down = false := by
  unfold mayS at h
  split at h
  · omega
  · rename_i h1
    split at h
    · omega
    · rename_i h2
      split at h
      · omega
      · rename_i h3
        simp only [Bool.or_eq_true, not_or, Bool.not_eq_true', Bool.not_eq_true, Bool.not_eq_false, List.any_eq_false] at h1 h2 h3
        refine ⟨h1.1, ?_, ?_, h3⟩
        · rw [List.all_eq_true]
          intro x hx
          have := h1.2 x hx
          simpa using this
        · rw [List.all_eq_true]
          intro x hx
          have := h2 x hx
          simp at this ⊢
          exact this
theorem okB_nums {s : Sto} (h : s.okB = true) : logB s.xs = true ∧ 1 ≤ s.gen ∧ s.gen ≤ 250 ∧ 0 ≤ s.used ∧ s.used ≤ areaD s.xs ∧ s.gen ≤ s.top ∧ s.top ≤ 250 ∧ 10 ≤ s.xs.length ∧ s.xs.length ≤ 130 := by
  unfold Sto.okB inB at h
  simp only [Bool.and_eq_true, decide_eq_true_eq] at h
  have h0 := h.1
  unfold logB at h0
  simp only [Bool.and_eq_true] at h0
  have := rightD_sizes h0.1
  exact ⟨h.1, h.2.1.1, h.2.1.2, h.2.2.1.1, h.2.2.1.2, h.2.2.2.1, h.2.2.2.2, this.1, this.2.1⟩
theorem slat_far {W : World} {v : Value} {sz n : Nat} {cs : List Value} (h : SlAt W v sz n cs) (hn : 0 < n) {b : Nat} (hb : v.ownBlock = some b) : b < W.heap.size := by
  obtain ⟨a, c, rfl, _, _⟩ := h.form
  obtain ⟨b', o, rfl, hlt, _⟩ := h.at hn
  injection hb with hb
  subst hb
  exact hlt
theorem append_any (s : Sto) (v : Value) (p : ByteArray) (f : Flt) (w : World) (hS : SlAt w v 1 s.xs.length (strs s.xs)) :
    Calls Try.prog 21 #[s.val v, .string p, fltV f] w (StoRes (appendS s p f).1 (appendS s p f).2 v w) := by
  unfold appendS
  by_cases hm : mayS s [p] [f] = 0
  · rw [if_pos hm]
    by_cases hu : s.used = areaD s.xs
    · rw [if_pos hu]
      exact append_full s v p f w hS hm hu
    · rw [if_neg hu]
      obtain ⟨hok, _, _, hdn⟩ := mayS_ok hm
      obtain ⟨_, g1, g2, u1, u2, _, _, l1, l2⟩ := okB_nums hok
      have hbl : ∀ b, v.ownBlock = some b → b ≠ w.heap.size := fun b hb => Nat.ne_of_lt (slat_far hS (by omega) hb)
      have ha : areaD s.xs ≤ 900 := by unfold areaD; omega
      obtain ⟨xs, gen, used, top, down⟩ := s
      obtain ⟨fk, fK⟩ := f
      simp only at *
      unfold appS
      by_cases h1 : fk = 1
      · subst h1
        simp only [if_true]
        refine append_go xs xs gen used top used 8 down down v p 1 fK w hS hm hu (fun W hW hB hP hF hs => ?_)
        refine (astop_fail w.heap.size (w.heap.size + 1) (w.heap.size + 1 + 1) v xs gen used top down p fK W hB hP hF hs hbl (by omega) (by omega) (by omega) u1 (by omega)).mono ?_
        rintro e w' ⟨rfl, hb⟩
        exact ⟨v, rfl, blk_call hb hB, hs.stay hb, .inl ⟨rfl, rfl⟩, gr_bel hb⟩
      · by_cases h2 : fk = 2
        · subst h2
          simp only [show ¬ (2 : Int) = 1 by decide, if_false, if_true]
          refine append_go xs _ gen used top used 9 down true v p 2 fK w hS hm hu (fun W hW hB hP hF hs => ?_)
          refine (astop_crash w.heap.size (w.heap.size + 1) (w.heap.size + 1 + 1) v xs gen used top down p fK W hB hP hF hs hbl (by omega) (by omega) (by omega) u1 (by omega)).mono ?_
          rintro e w' ⟨v', rfl, k1, k2, k3, k4⟩
          exact ⟨v', rfl, k1, k2, .inr k3, k4⟩
        · simp only [h1, h2, if_false]
          refine append_go xs _ gen used top (used + 1) 0 down down v p fk fK w hS hm hu (fun W hW hB hP hF hs => ?_)
          refine (astop_ok w.heap.size (w.heap.size + 1) (w.heap.size + 1 + 1) v xs gen used top down p fk fK W hB hP hF hs hbl (by omega) (by omega) (by omega) u1 (by omega) h1 h2).mono ?_
          rintro e w' ⟨v', rfl, k1, k2, k3, k4⟩
          exact ⟨v', rfl, k1, k2, .inr k3, k4⟩
  · rw [if_neg hm]
    exact append_bad s v p f _ w hS rfl hm
end Go.Proofs.Ytopaddpclipnjaa
namespace Go.Proofs.Ytopaddpclipnjaa
open Go.RowKit
def fz : Flt := ⟨0, 0⟩
theorem slat_tail {W : World} {v : Value} {x : Flt} {fs : List Flt} (b o c : Nat) (h : SlAt W (.slice (some ⟨b, o, none⟩) (fs.length + 1) c) 2 (fs.length + 1) (fltsC (x :: fs))) (hv : v = if c - 1 = 0 then .slice (some ⟨b, o, none⟩) fs.length (c - 1) else .slice (some ⟨b, o + 2, none⟩) fs.length (c - 1)) :
    SlAt W v 2 fs.length (fltsC fs) ∧ v.ownBlock = some b := by
  obtain ⟨_, a', c', hv', h1, h2, h3⟩ := h
  injection hv' with e1 e2 e3
  subst e3 e1
  have hl : (fltsC fs).length = fs.length * 2 := by
    unfold fltsC
    exact flat_len (en := fltC) (sz := 2) (fun _ => rfl) fs
  have hb : b < W.heap.size ∧ ∀ j u, (fltsC (x :: fs))[j]? = some u → W.cell? ⟨b, o + j, none⟩ = some u := by
    rcases h3 with h3 | ⟨b', o', ha, hlt, hc⟩
    · omega
    · injection ha with ha
      injection ha with ha1 ha2
      subst ha1 ha2
      exact ⟨hlt, hc⟩
  by_cases hc : c - 1 = 0
  · rw [if_pos hc] at hv
    subst hv
    exact ⟨⟨hl, _, _, rfl, by omega, by omega, .inl (by omega)⟩, rfl⟩
  · rw [if_neg hc] at hv
    subst hv
    refine ⟨⟨hl, _, _, rfl, by omega, by omega, .inr ⟨b, o + 2, rfl, hb.1, fun j u hu => ?_⟩⟩, rfl⟩
    have := hb.2 (2 + j) u (by
      show (fltC x ++ fltsC fs)[2 + j]? = some u
      rw [List.getElem?_append_right (by simp [fltC])]
      simpa [fltC] using hu)
    rwa [← Nat.add_assoc] at this
theorem next_any (gF : Nat) (v : Value) (fs : List Flt) (w : World) (hB : w.heap[gF]? = some (.cells #[v] 47 (0, 0))) (hS : SlAt w v 2 fs.length (fltsC fs)) (hne : 0 < fs.length → ∀ b, v.ownBlock = some b → b ≠ gF) :
    Calls Try.prog 51 #[.pointer (some ⟨gF, 0, none⟩)] w fun e w' =>
      ∃ v', e = .returned (fltV (fs.headD fz)) ∧ w'.heap[gF]? = some (.cells #[v'] 47 (0, 0)) ∧ SlAt w' v' 2 fs.tail.length (fltsC fs.tail) ∧ (∀ b, v'.ownBlock = some b → v.ownBlock = some b) ∧ w.grownBy w' (some gF) := by
  obtain ⟨a, c, rfl, hnc, hcm⟩ := hS.form
  have c0 : w.cell? ⟨gF, 0, none⟩ = some (.slice a fs.length c) := blk_cell hB (j := 0) rfl
  have z0 := blk_free hB 0
  have hg := blk_lt hB
  cases fs with
  | nil =>
    have HB := Lib.hid hB
    have HS := Lib.hid hS
    clear hB hS
    go_enter Try.func51, Try.ntmps51
    go_wp2
    refine bodyPost_ret (v := .agg #[.int .i64 0, .int .i64 0]) ?_ rfl ?_
    · simp [results, Try.results51, go_sem]
    · exact ⟨.slice a 0 c, rfl, blk_alloc _ HB.out, HS.out.alloc _, fun _ h => h, gr_bel (bal (Below.refl _ _) _)⟩
  | cons x fs =>
    obtain ⟨b, o, rfl, hlt, hc⟩ := hS.at (by simp)
    have hbg : b ≠ gF := hne (by simp) b rfl
    obtain ⟨fk, fK⟩ := x
    have k0 : w.cell? ⟨b, o, none⟩ = some (.int .i64 fk) := hc 0 _ rfl
    have k1 : w.cell? ⟨b, o + 1, none⟩ = some (.int .i64 fK) := hc 1 _ rfl
    have HT := fun W (h : SlAt W _ 2 (fs.length + 1) (fltsC (⟨fk, fK⟩ :: fs))) v hv => slat_tail (W := W) (v := v) b o c h hv
    have HB := Lib.hid hB
    have HS := Lib.hid hS
    have HH := Lib.hid HT
    clear hB hS hne hc HT
    simp only [List.length_cons] at *
    have key : ∀ v', v' = (if c - 1 = 0 then Value.slice (some ⟨b, o, none⟩) fs.length (c - 1) else .slice (some ⟨b, o + 2, none⟩) fs.length (c - 1)) → ∀ o1 o2 : Obj,
        ∃ v'', Ending.returned (fltV ⟨fk, fK⟩) = .returned (fltV ⟨fk, fK⟩) ∧ (((w.setCell ⟨gF, 0, none⟩ v').alloc o1).alloc o2).heap[gF]? = some (.cells #[v''] 47 (0, 0)) ∧ SlAt (((w.setCell ⟨gF, 0, none⟩ v').alloc o1).alloc o2) v'' 2 fs.length (fltsC fs) ∧ (∀ b', v''.ownBlock = some b' → (Value.slice (some ⟨b, o, none⟩) (fs.length + 1) c).ownBlock = some b') ∧ w.grownBy (((w.setCell ⟨gF, 0, none⟩ v').alloc o1).alloc o2) (some gF) := by
      intro v' hv o1 o2
      have hs := HH.out w HS.out v' hv
      have hs2 := ((hs.1.store (p := ⟨gF, 0, none⟩) (fun b' hb' => by rw [hs.2] at hb'; injection hb' with hb'; subst hb'; exact hbg) v').alloc o1).alloc o2
      refine ⟨v', rfl, blk_alloc _ (blk_alloc _ (blk_set HB.out 0 _)), hs2, fun b' hb' => by rw [hs.2] at hb'; exact hb', ?_⟩
      exact ((gr_set4 (World.grownBy.refl w (some gF)) v').trans (gr_bel (bal (Below.refl _ _) o1))).trans (gr_bel (bal (Below.refl _ _) o2))
    have HK := Lib.hid key
    clear key HH HS HB
    by_cases hc1 : c - 1 = 0
    · obtain rfl : c = 1 := by omega
      obtain rfl : fs = [] := List.eq_nil_of_length_eq_zero (by omega)
      go_enter Try.func51, Try.ntmps51
      go_wp2
      refine bodyPost_ret (v := .agg #[.int .i64 fk, .int .i64 fK]) ?_ rfl ?_
      · simp [results, Try.results51, go_sem]
      · obtain ⟨v'', _, h1, h2, h3, h4⟩ := HK.out _ rfl (.cells #[.int .i64 fk, .int .i64 fK] 45) (.cells #[.int .i64 fk, .int .i64 fK] 45)
        exact ⟨rfl, v'', h1, h2, h3, h4⟩
    · go_enter Try.func51, Try.ntmps51
      go_wp2
      refine bodyPost_ret (v := .agg #[.int .i64 fk, .int .i64 fK]) ?_ rfl ?_
      · simp [results, Try.results51, go_sem]
      · obtain ⟨v'', _, h1, h2, h3, h4⟩ := HK.out _ (by rw [if_neg hc1]) (.cells #[.int .i64 fk, .int .i64 fK] 45) (.cells #[.int .i64 fk, .int .i64 fK] 45)
        first | exact ⟨rfl, v'', h1, h2, h3, h4⟩ | exact ⟨v'', rfl, h1, h2, h3, h4⟩
def wrL (xs : List ByteArray) (i : Int) (t : ByteArray) (f : Flt) : List ByteArray × Int := if f.kind = 1 then (xs, 8) else if f.kind = 2 then (tearL xs i t f.k, 9) else (tearL xs i t 128, 0)
def turnW (g : Int) : List ByteArray → Nat → List ByteArray → List Flt → List ByteArray × Int
  | xs, _, [], fs => wrL xs (g % 2) (sealS g 0 ⟨#[]⟩) (fs.headD fz)
  | xs, i, p :: l, fs => if (wrL xs (placeD xs g i) (sealS g (i + 1) p) (fs.headD fz)).2 = 0 then turnW g (wrL xs (placeD xs g i) (sealS g (i + 1) p) (fs.headD fz)).1 (i + 1) l fs.tail else wrL xs (placeD xs g i) (sealS g (i + 1) p) (fs.headD fz)
def wrEnd (k : Int) : Ending := if k = 0 then .returned (.tuple #[]) else .panicked [{ v := stopV k, recovered := false }]
theorem swrite_any (g : Nat) (v : Value) (xs : List ByteArray) (gen used top : Int) (at_ gn no : Int) (p : ByteArray) (f : Flt) (w : World)
    (hB : w.heap[g]? = some (.cells (SC v gen used top false) 26 (0, 0))) (hS : SlAt w v 1 xs.length (strs xs)) (hne : ∀ b, v.ownBlock = some b → b ≠ g) :
    Calls Try.prog 50 #[.pointer (some ⟨g, 0, none⟩), .int .i64 at_, .int .i64 gn, .int .i64 no, .string p, fltV f] w fun e w' =>
      ∃ v', e = wrEnd (wrL xs at_ (sealS gn no p) f).2 ∧ w'.heap[g]? = some (.cells (SC v' gen used top (decide ((wrL xs at_ (sealS gn no p) f).2 = 9))) 26 (0, 0)) ∧ SlAt w' v' 1 (wrL xs at_ (sealS gn no p) f).1.length (strs (wrL xs at_ (sealS gn no p) f).1) ∧ (v' = v ∨ FreshV w.heap.size v') ∧ w.grownBy w' (some g) := by
  obtain ⟨fk, fK⟩ := f
  unfold wrL fltV
  by_cases h1 : fk = 1
  · subst h1
    simp only [if_true]
    refine (swrite_fail g v gen used top false at_ gn no p fK w hB).mono ?_
    rintro e w' ⟨rfl, hb⟩
    exact ⟨v, rfl, blk_call hb hB, hS.stay hb, .inl rfl, gr_bel hb⟩
  · by_cases h2 : fk = 2
    · subst h2
      simp only [show ¬ (2 : Int) = 1 by decide, if_false, if_true]
      refine (swrite_crash g v xs gen used top false at_ gn no p fK w hB hS hne).mono ?_
      rintro e w' ⟨v', rfl, k1, k2, k3, k4⟩
      exact ⟨v', rfl, k1, k2, .inr k3, k4⟩
    · simp only [h1, h2, if_false]
      refine (swrite_ok g v xs gen used top false at_ gn no p fk fK w hB hS hne h1 h2).mono ?_
      rintro e w' ⟨v', rfl, k1, k2, k3, k4⟩
      exact ⟨v', rfl, k1, k2, .inr k3, k4⟩
end Go.Proofs.Ytopaddpclipnjaa
namespace Go.Proofs.Ytopaddpclipnjaa
open Go.RowKit Go.Proofs.YtopaddpclipnjaaW.PrintLast
theorem goesC_ {P : Program} {Q : Exit → Act → World → Prop} {ops : Array Oper} {oi : Oper} {N : Option Tmp} {a : Act} {w : World} {K : Act → World → Prop} {x : Operand} (f : FuncId) (caps : Array Value)
    (hw : Region.wanted oi (yielded ops a.tmps) = true) (hN : oi.dst = N) (hop : oi.op = .call { callee := .value x, args := #[], argTypes := #[] }) (hx : a.eval x = .func (.func f) #[] caps) (he : Enters P f)
    (h : Calls P f caps w fun e w' => ∃ v, e = .returned v ∧ K (a.put N v) w') : if Region.wanted oi (yielded ops a.tmps) = true then Oper.wp P oi a w K Q else K (a.put N undef) w := by
  refine call_ f caps hw hN ?_ h
  have h1 := he caps w
  unfold execOp
  simp [hop, resolve, hx, Deferred.ofValue, invoke, h1]
structure G2 (g1 g2 : Nat) (w w' : World) : Prop where
  os : w'.os = w.os
  tape : w'.tape = w.tape
  output : w'.output = w.output
  size : w.heap.size ≤ w'.heap.size
  block : ∀ i, i < w.heap.size → i ≠ g1 → i ≠ g2 → w'.heap[i]? = w.heap[i]?
theorem G2.refl (g1 g2 : Nat) (w : World) : G2 g1 g2 w w := ⟨rfl, rfl, rfl, Nat.le_refl _, fun _ _ _ _ => rfl⟩
theorem G2.trans {g1 g2 : Nat} {w w1 w2 : World} (h : G2 g1 g2 w w1) (k : G2 g1 g2 w1 w2) : G2 g1 g2 w w2 :=
  ⟨k.os.trans h.os, k.tape.trans h.tape, k.output.trans h.output, Nat.le_trans h.size k.size, fun i hi a b => (k.block i (Nat.lt_of_lt_of_le hi h.size) a b).trans (h.block i hi a b)⟩
theorem G2.left {g1 g2 : Nat} {w w' : World} (h : w.grownBy w' (some g1)) : G2 g1 g2 w w' := ⟨h.os, h.tape, h.output, h.size, fun i hi a _ => h.block i hi (fun e => a (Option.some.inj e))⟩
theorem G2.right {g1 g2 : Nat} {w w' : World} (h : w.grownBy w' (some g2)) : G2 g1 g2 w w' := ⟨h.os, h.tape, h.output, h.size, fun i hi _ b => h.block i hi (fun e => b (Option.some.inj e))⟩
theorem G2.below {g1 g2 : Nat} {w w' : World} (h : Below w.heap.size w w') : G2 g1 g2 w w' := ⟨h.os, h.tape, h.output, h.size, fun i hi _ _ => h.block i hi⟩
theorem SlAt.grown {W W' : World} {v : Value} {sz n : Nat} {cells : List Value} {g1 g2 : Nat} (h : SlAt W v sz n cells) (hg : G2 g1 g2 W W') (h1 : 0 < n → ∀ b, v.ownBlock = some b → b ≠ g1) (h2 : 0 < n → ∀ b, v.ownBlock = some b → b ≠ g2) : SlAt W' v sz n cells := by
  obtain ⟨hl, a, c, hv, k1, k2, h3⟩ := h
  refine ⟨hl, a, c, hv, k1, k2, ?_⟩
  rcases Nat.eq_zero_or_pos n with hz | hz
  · exact .inl hz
  rcases h3 with h3 | ⟨b, o, ha, hlt, hc⟩
  · exact .inl h3
  · have hb : v.ownBlock = some b := by rw [hv, ha]; rfl
    refine .inr ⟨b, o, ha, Nat.lt_of_lt_of_le hlt hg.size, fun j u hu => ?_⟩
    rw [World.cell?_of_block (a := ⟨b, o + j, none⟩) (hg.block b hlt (h1 hz b hb) (h2 hz b hb))]
    exact hc j u hu
structure TS (gs gF gl gg gn : Nat) (v vf v1 : Value) (ys l : List ByteArray) (fr : List Flt) (gen used top g : Int) (W : World) : Prop where
  bs : W.heap[gs]? = some (.cells (SC v gen used top false) 26 (0, 0))
  ss : SlAt W v 1 ys.length (strs ys)
  ns : ∀ b, v.ownBlock = some b → b ≠ gs
  ns' : ∀ b, v.ownBlock = some b → b ≠ gF
  bF : W.heap[gF]? = some (.cells #[vf] 47 (0, 0))
  sF : SlAt W vf 2 fr.length (fltsC fr)
  nF : 0 < fr.length → ∀ b, vf.ownBlock = some b → b ≠ gF
  nF' : 0 < fr.length → ∀ b, vf.ownBlock = some b → b ≠ gs
  bl : W.heap[gl]? = some (.cells #[v1] 22 (0, 0))
  sl : SlAt W v1 1 l.length (strs l)
  nl : 0 < l.length → ∀ b, v1.ownBlock = some b → b ≠ gs
  nl' : 0 < l.length → ∀ b, v1.ownBlock = some b → b ≠ gF
  bg : W.heap[gg]? = some (.cells #[.int .i64 g] 3 (0, 0))
  bn : W.heap[gn]? = some (.cells #[.func (.func 51) #[] #[.pointer (some ⟨gF, 0, none⟩)]] 81 (0, 0))
  d1 : gs ≠ gF
  d2 : gl ≠ gs ∧ gl ≠ gF
  d3 : gg ≠ gs ∧ gg ≠ gF
  d4 : gn ≠ gs ∧ gn ≠ gF
section
variable {gs gF gl gg gn : Nat} {v vf v1 : Value} {ys l : List ByteArray} {fr : List Flt} {gen used top g : Int} {W W' : World}
theorem TS.c0 (h : TS gs gF gl gg gn v vf v1 ys l fr gen used top g W) : W.cell? ⟨gs, 0, none⟩ = some v := blk_cell h.bs (j := 0) rfl
theorem TS.cg (h : TS gs gF gl gg gn v vf v1 ys l fr gen used top g W) : W.cell? ⟨gg, 0, none⟩ = some (.int .i64 g) := blk_cell h.bg (j := 0) rfl
theorem TS.cn (h : TS gs gF gl gg gn v vf v1 ys l fr gen used top g W) : W.cell? ⟨gn, 0, none⟩ = some (.func (.func 51) #[] #[.pointer (some ⟨gF, 0, none⟩)]) := blk_cell h.bn (j := 0) rfl
theorem TS.cl (h : TS gs gF gl gg gn v vf v1 ys l fr gen used top g W) : W.cell? ⟨gl, 0, none⟩ = some v1 := blk_cell h.bl (j := 0) rfl
theorem TS.below (h : TS gs gF gl gg gn v vf v1 ys l fr gen used top g W) (hb : Below W.heap.size W W') : TS gs gF gl gg gn v vf v1 ys l fr gen used top g W' :=
  ⟨blk_call hb h.bs, h.ss.stay hb, h.ns, h.ns', blk_call hb h.bF, h.sF.stay hb, h.nF, h.nF', blk_call hb h.bl, h.sl.stay hb, h.nl, h.nl', blk_call hb h.bg, blk_call hb h.bn, h.d1, h.d2, h.d3, h.d4⟩
theorem keep2 {g1 i : Nat} {o : Obj} (hg : W.grownBy W' (some g1)) (h : W.heap[i]? = some o) (hi : i ≠ g1) : W'.heap[i]? = some o := (hg.block i (blk_lt h) (fun e => hi (Option.some.inj e))).trans h
theorem TS.next {vf' : Value} (h : TS gs gF gl gg gn v vf v1 ys l fr gen used top g W) (hB : W'.heap[gF]? = some (.cells #[vf'] 47 (0, 0))) (hS : SlAt W' vf' 2 fr.tail.length (fltsC fr.tail)) (hN : ∀ b, vf'.ownBlock = some b → vf.ownBlock = some b) (hg : W.grownBy W' (some gF)) :
    TS gs gF gl gg gn v vf' v1 ys l fr.tail gen used top g W' :=
  ⟨keep2 hg h.bs h.d1, h.ss.grown (G2.right (g1 := gs) hg) (fun _ => h.ns) (fun _ => h.ns'), h.ns, h.ns', hB, hS, fun hz b hb => h.nF (by cases fr <;> simp at hz ⊢) b (hN b hb), fun hz b hb => h.nF' (by cases fr <;> simp at hz ⊢) b (hN b hb), keep2 hg h.bl h.d2.2, h.sl.grown (G2.right (g1 := gs) hg) h.nl h.nl', h.nl, h.nl', keep2 hg h.bg h.d3.2, keep2 hg h.bn h.d4.2, h.d1, h.d2, h.d3, h.d4⟩
theorem TS.wrote {v' : Value} {zs : List ByteArray} (h : TS gs gF gl gg gn v vf v1 ys l fr gen used top g W) (hB : W'.heap[gs]? = some (.cells (SC v' gen used top false) 26 (0, 0))) (hS : SlAt W' v' 1 zs.length (strs zs)) (hN : v' = v ∨ FreshV W.heap.size v') (hg : W.grownBy W' (some gs)) :
    TS gs gF gl gg gn v' vf v1 zs l fr gen used top g W' := by
  have hs := blk_lt h.bs
  have hF := blk_lt h.bF
  refine ⟨hB, hS, ?_, ?_, keep2 hg h.bF (Ne.symm h.d1), h.sF.grown (G2.left (g2 := gF) hg) h.nF' h.nF, h.nF, h.nF', keep2 hg h.bl h.d2.1, h.sl.grown (G2.left (g2 := gF) hg) h.nl h.nl', h.nl, h.nl', keep2 hg h.bg h.d3.1, keep2 hg h.bn h.d4.1, h.d1, h.d2, h.d3, h.d4⟩
  · rcases hN with rfl | hN
    · exact h.ns
    · intro b hb
      have := hN b hb
      omega
  · rcases hN with rfl | hN
    · exact h.ns'
    · intro b hb
      have := hN b hb
      omega
end
theorem wrL_len (xs : List ByteArray) (i : Int) (t : ByteArray) (f : Flt) : (wrL xs i t f).1.length ≤ xs.length := by
  have ht : ∀ k, (tearL xs i t k).length ≤ xs.length := by
    intro k
    unfold tearL
    split
    · simp
    · simp
  unfold wrL
  split
  · exact Nat.le_refl _
  · split
    · exact ht _
    · exact ht _
theorem small64 (x : Int) (h0 : 0 ≤ x) (h1 : x ≤ 100000) : wrap64 x = x ∧ IntKind.i64.wrap x = x := by
  have h : wrap64 x = x := by unfold wrap64; omega
  refine ⟨h, ?_⟩
  rw [IntKind.wrap_i64]
  unfold wrap64 at h
  exact h
theorem tfacts {i n : Nat} (h : i < n) (hn : n ≤ 900) : 0 ≤ (i : Int) ∧ (i : Int) ≤ 1000 ∧ 0 ≤ (i : Int) + 1 ∧ (i : Int) + 1 ≤ 100000 ∧ n - ((i : Int) + 1).toNat < n - (i : Int).toNat ∧ i + 1 ≤ n := by
  refine ⟨?_, ?_, ?_, ?_, ?_, ?_⟩ <;> omega
theorem turnW_go {g : Int} {ys : List ByteArray} {i : Nat} {p : ByteArray} {l : List ByteArray} {fr : List Flt} {R : List ByteArray × Int} (h : R = turnW g ys i (p :: l) fr) (hk : (wrL ys (placeD ys g i) (sealS g (i + 1) p) (fr.headD fz)).2 = 0) :
    R = turnW g (wrL ys (placeD ys g i) (sealS g (i + 1) p) (fr.headD fz)).1 (i + 1) l fr.tail := by
  rw [h]
  conv => lhs; unfold turnW
  rw [if_pos hk]
theorem turnW_nil {g : Int} {ys : List ByteArray} {i : Nat} {fr : List Flt} {R : List ByteArray × Int} (g0 : 0 ≤ g) (h : R = turnW g ys i [] fr) : R = wrL ys (g.tmod 2) (sealS g 0 ⟨#[]⟩) (fr.headD fz) := by
  rw [h, show g.tmod 2 = g % 2 from Int.tmod_eq_emod_of_nonneg g0]
  unfold turnW
  rfl
theorem turnW_stop {g : Int} {ys : List ByteArray} {i : Nat} {p : ByteArray} {l : List ByteArray} {fr : List Flt} {R : List ByteArray × Int} (h : R = turnW g ys i (p :: l) fr) (hk : ¬ (wrL ys (placeD ys g i) (sealS g (i + 1) p) (fr.headD fz)).2 = 0) :
    R = wrL ys (placeD ys g i) (sealS g (i + 1) p) (fr.headD fz) := by
  rw [h]
  unfold turnW
  rw [if_neg hk]
def TEnd (gs gF : Nat) (v : Value) (R : List ByteArray × Int) (n : Int) (gen used top g : Int) (w : World) (e : Ending) (w' : World) : Prop :=
  ∃ v', e = wrEnd R.2 ∧ w'.heap[gs]? = some (.cells (SC v' (if R.2 = 0 then g else gen) (if R.2 = 0 then n else used) top (decide (R.2 = 9))) 26 (0, 0)) ∧ SlAt w' v' 1 R.1.length (strs R.1) ∧ (v' = v ∨ FreshV w.heap.size v') ∧ G2 gs gF w w'
set_option maxRecDepth 100000 in
set_option maxHeartbeats 8000000 in
theorem turn2_any (gs gF gl gg gn : Nat) (v vf v1 : Value) (xs l : List ByteArray) (fs : List Flt) (gen used top g : Int) (w : World) (hT : TS gs gF gl gg gn v vf v1 xs l fs gen used top g w) (hx : xs.length ≤ 1000) (g0 : 0 ≤ g) (g1 : g ≤ 1000) (hl : l.length ≤ 900) :
    Calls Try.prog 52 #[.pointer (some ⟨gl, 0, none⟩), .pointer (some ⟨gs, 0, none⟩), .pointer (some ⟨gg, 0, none⟩), .pointer (some ⟨gn, 0, none⟩)] w (TEnd gs gF v (turnW g xs 0 l fs) l.length gen used top g w) := by
  have henN : Enters Try.prog 51 := enters_of Try.func51 (by kernel_rfl) rfl
  have HT := Lib.hid hT
  obtain ⟨a1, c1, rfl, _, _⟩ := hT.sl.form
  have k1 := hT.cl
  have hgl := blk_free hT.bl 0
  clear hT
  obtain ⟨R, hR⟩ : ∃ R, R = turnW g xs 0 l fs := ⟨_, rfl⟩
  rw [← hR]
  obtain ⟨Q, hQ⟩ : ∃ Q, Q = TEnd gs gF v R l.length gen used top g w := ⟨_, rfl⟩
  rw [← hQ]
  have HQ := Lib.hid hQ
  have HR := Lib.hid hR
  clear hQ hR
  go_enter Try.func52, Try.ntmps52
  go_wp2
  go_loopw [4, 5, 8] (fun _ _ i_ wr => ∃ (i : Nat) (u uf : Value) (ys : List ByteArray) (fr : List Flt), i ≤ l.length ∧ i_ = .int .i64 i ∧ ys.length ≤ 1000 ∧ Hid (TS gs gF gl gg gn u uf (.slice a1 l.length c1) ys l fr gen used top g wr) ∧ Hid (R = turnW g ys i (l.drop i) fr) ∧ Hid (u = v ∨ FreshV w.heap.size u) ∧ Hid (G2 gs gF w wr)) (fun _ _ i _ => l.length - (intOf i).toNat)
  case atStart => exact ⟨0, v, vf, xs, fs, Nat.zero_le _, rfl, hx, HT, HR, Lib.hid (.inl rfl), Lib.hid (G2.refl _ _ _)⟩
  case round =>
    obtain ⟨i, u, vf, ys, fr, hi, rfl, hy, HTi, HRi, HU, HG⟩ := hrel
    by_cases hlt : i < l.length
    · obtain ⟨a0, c0, rfl, _, _⟩ := HTi.out.ss.form
      obtain ⟨b, o, rfl, hbl, hcell⟩ := HTi.out.sl.at (by omega)
      have k2 : wr.cell? ⟨b, o + i, none⟩ = some (.string l[i]) := hcell i _ (strs_get _ _ hlt)
      clear hcell
      obtain ⟨p, hp⟩ : ∃ p, p = l[i] := ⟨_, rfl⟩
      rw [← hp] at k2
      have hdrop : l.drop i = p :: l.drop (i + 1) := by rw [hp]; exact List.drop_eq_getElem_cons hlt
      rw [hdrop] at HRi
      have HD := Lib.hid hdrop
      clear hp hdrop
      obtain ⟨f1, f2, f3, f4, hm, hi1⟩ := tfacts hlt hl
      obtain ⟨hwi, hwj⟩ := small64 ((i : Int) + 1) f3 f4
      have HP := Lib.hid (fun W h => place_any (.slice a0 ys.length c0) ys g i W h hy g0 g1 f1 f2)
      go_wp2_with fail
      as_aux_lemma =>
      have TD : Hid (TS gs gF gl gg gn (.slice a0 ys.length c0) vf (.slice (some ⟨b, o, none⟩) l.length c1) ys l fr gen used top g wr.drew) := Lib.hid (HTi.out.below (bdn (Below.refl _ _) 1))
      clear HTi
      have hd := TD.out.ss
      refine start_ (n := 12) (S := fun w' => w'.cell? ⟨gs, 0, none⟩ = some (Value.slice a0 ys.length c0) ∧ w'.cell? ⟨gg, 0, none⟩ = some (.int .i64 g) ∧ w'.cell? ⟨gn, 0, none⟩ = some (.func (.func 51) #[] #[.pointer (some ⟨gF, 0, none⟩)])) (ds := [11]) #[false, false, false, false, false, false, false, false, false, false, false, false] (by kernel_rfl) rfl rfl ⟨TD.out.c0, TD.out.cg, TD.out.cn⟩ (fun hHeld => ?_)
      refine pure_ (i := 0) (N := some 13) (v := ?_) (a' := ?_) #[true, false, false, false, false, false, false, false, false, false, false, false] rfl rfl (by kernel_rfl) (fun _ _ _ h => h) (Or.inl ⟨by rfl, ?_⟩) ?_ ?_
      rotate_left
      · intro w'
        go_simp
        with_reducible rfl
      rotate_left
      · simp only [Act.put, List.setIfInBounds_toArray, List.set_cons_zero, List.set_cons_succ, i64_w, i32_w]
        rfl
      refine take_ (i := 1) (N := some 14) (v := ?_) (a' := ?_) #[true, true, false, false, false, false, false, false, false, false, false, false] rfl rfl (by kernel_rfl) (fun _ _ _ h => h) (Or.inl ⟨by rfl, ?_⟩) hHeld ?_ ?_
      rotate_left
      · rintro w' ⟨s0, s1, s2⟩
        go_simp
        with_reducible rfl
      rotate_left
      · simp only [Act.put, List.setIfInBounds_toArray, List.set_cons_zero, List.set_cons_succ, i64_w, i32_w]
        rfl
      refine take_ (i := 2) (N := some 15) (v := ?_) (a' := ?_) #[true, true, true, false, false, false, false, false, false, false, false, false] rfl rfl (by kernel_rfl) (fun _ _ _ h => h) (Or.inl ⟨by rfl, ?_⟩) hHeld ?_ ?_
      rotate_left
      · rintro w' ⟨s0, s1, s2⟩
        go_simp
        with_reducible rfl
      rotate_left
      · simp only [Act.put, List.setIfInBounds_toArray, List.set_cons_zero, List.set_cons_succ, i64_w, i32_w]
        rfl
      refine pure_ (i := 3) (N := some 16) (v := ?_) (a' := ?_) #[true, true, true, true, false, false, false, false, false, false, false, false] rfl rfl (by kernel_rfl) (fun _ _ _ h => h) (Or.inl ⟨by rfl, ?_⟩) ?_ ?_
      rotate_left
      · intro w'
        go_simp
        with_reducible rfl
      rotate_left
      · simp only [Act.put, List.setIfInBounds_toArray, List.set_cons_zero, List.set_cons_succ, i64_w, i32_w]
        rfl
      refine take_ (i := 5) (N := some 18) (v := ?_) (a' := ?_) #[true, true, true, true, false, true, false, false, false, false, false, false] rfl rfl (by kernel_rfl) (fun _ _ _ h => h) (Or.inl ⟨by rfl, ?_⟩) hHeld ?_ ?_
      rotate_left
      · rintro w' ⟨s0, s1, s2⟩
        go_simp
        with_reducible rfl
      rotate_left
      · simp only [Act.put, List.setIfInBounds_toArray, List.set_cons_zero, List.set_cons_succ, i64_w, i32_w]
        rfl
      refine pure_ (i := 6) (N := some 19) (v := ?_) (a' := ?_) #[true, true, true, true, false, true, true, false, false, false, false, false] rfl rfl (by kernel_rfl) (fun _ _ _ h => h) (Or.inl ⟨by rfl, ?_⟩) ?_ ?_
      rotate_left
      · intro w'
        go_simp
        with_reducible rfl
      rotate_left
      · simp only [Act.put, List.setIfInBounds_toArray, List.set_cons_zero, List.set_cons_succ, i64_w, i32_w]
        rfl
      refine pure_ (i := 7) (N := some 20) (v := ?_) (a' := ?_) #[true, true, true, true, false, true, true, true, false, false, false, false] rfl rfl (by kernel_rfl) (fun _ _ _ h => h) (Or.inl ⟨by rfl, ?_⟩) ?_ ?_
      rotate_left
      · intro w'
        go_simp
        with_reducible rfl
      rotate_left
      · simp only [Act.put, List.setIfInBounds_toArray, List.set_cons_zero, List.set_cons_succ, i64_w, i32_w]
        rfl
      refine pure_ (i := 8) (N := some 21) (v := ?_) (a' := ?_) #[true, true, true, true, false, true, true, true, true, false, false, false] rfl rfl (by kernel_rfl) (fun _ _ _ h => h) (Or.inl ⟨by rfl, ?_⟩) ?_ ?_
      rotate_left
      · intro w'
        go_simp
        with_reducible rfl
      rotate_left
      · simp only [Act.put, List.setIfInBounds_toArray, List.set_cons_zero, List.set_cons_succ, i64_w, i32_w]
        rfl
      refine take_ (i := 9) (N := some 22) (v := ?_) (a' := ?_) #[true, true, true, true, false, true, true, true, true, true, false, false] rfl rfl (by kernel_rfl) (fun _ _ _ h => h) (Or.inl ⟨by rfl, ?_⟩) hHeld ?_ ?_
      rotate_left
      · rintro w' ⟨s0, s1, s2⟩
        go_simp
        with_reducible rfl
      rotate_left
      · simp only [Act.put, List.setIfInBounds_toArray, List.set_cons_zero, List.set_cons_succ, i64_w, i32_w]
        rfl
      refine one_ (i := 4) (N := some 17) #[true, true, true, true, true, true, true, true, true, true, false, false] rfl rfl (by kernel_rfl) (by decide) (fun K hK => ?_)
      refine goes_ Try.func38 (by kernel_rfl) rfl #[.agg #[.slice a0 ys.length c0], .int .i64 g, .int .i64 i] (by rfl) rfl rfl (by (try simp only [List.map_toArray, List.map_cons, List.map_nil]); first | done | rfl) ?_
      refine (HP.out _ hd).mono ?_
      rintro e w1 ⟨rfl, hb1⟩
      refine ⟨_, rfl, ?_⟩
      have T1 := Lib.hid (TS.below TD.out hb1)
      refine hK.out _ _ ⟨T1.out.c0, T1.out.cg, T1.out.cn⟩ (fun hHeld => ?_)
      clear hK K
      refine norm_ (a' := ?_) ?_ ?_
      rotate_left
      · show Act.put _ (some 17) _ = _
        simp only [Act.put, List.setIfInBounds_toArray, List.set_cons_zero, List.set_cons_succ, i64_w, i32_w]
        rfl
      refine one_ (i := 10) (N := some 23) #[true, true, true, true, true, true, true, true, true, true, true, false] rfl rfl (by kernel_rfl) (by decide) (fun K hK => ?_)
      refine goesC_ 51 #[.pointer (some ⟨gF, 0, none⟩)] (by rfl) rfl rfl (by rfl) henN ?_
      refine (next_any gF vf fr _ T1.out.bF T1.out.sF T1.out.nF).mono ?_
      rintro e w2 ⟨vf', rfl, hBF, hSF, hNF, hGF⟩
      refine ⟨_, rfl, ?_⟩
      have T2 := Lib.hid (TS.next T1.out hBF hSF hNF hGF)
      refine hK.out _ _ ⟨T2.out.c0, T2.out.cg, T2.out.cn⟩ (fun hHeld => ?_)
      clear hK K
      refine norm_ (a' := ?_) ?_ ?_
      rotate_left
      · show Act.put _ (some 23) _ = _
        simp only [Act.put, List.setIfInBounds_toArray, List.set_cons_zero, List.set_cons_succ, i64_w, i32_w]
        rfl
      refine last_ (i := 11) (N := some 24) #[true, true, true, true, true, true, true, true, true, true, true, true] rfl rfl (by kernel_rfl) (by decide) (fun K hK => ?_)
      by_cases hk : (wrL ys (placeD ys g i) (sealS g (i + 1) p) (fr.headD fz)).2 = 0
      · refine goes_ Try.func50 (by kernel_rfl) rfl #[.pointer (some ⟨gs, 0, none⟩), .int .i64 (placeD ys g i), .int .i64 g, .int .i64 (i + 1), .string p, fltV (fr.headD fz)] (by rfl) rfl rfl (by (try simp only [List.map_toArray, List.map_cons, List.map_nil]); first | done | rfl) ?_
        refine (swrite_any gs _ ys gen used top (placeD ys g i) g (i + 1) p (fr.headD fz) _ T2.out.bs T2.out.ss T2.out.ns).mono ?_
        rintro e w3 ⟨v3, rfl, hB3, hS3, hF3, hG3⟩
        refine ⟨.tuple #[], by unfold wrEnd; rw [if_pos hk], ?_⟩
        refine hK.out _ _ ?_
        clear hK K
        refine norm_ (a' := ?_) ?_ ?_
        rotate_left
        · show Act.put _ (some 24) _ = _
          simp only [Act.put, List.setIfInBounds_toArray, List.set_cons_zero, List.set_cons_succ, i64_w, i32_w]
          rfl
        refine done_ (by kernel_rfl) ?_
        have T3 := Lib.hid (T2.out.wrote (by rw [show decide ((wrL ys (placeD ys g i) (sealS g (i + 1) p) (fr.headD fz)).2 = 9) = false by rw [hk]; rfl] at hB3; exact hB3) hS3 hF3 hG3)
        have hg3 : G2 gs gF w w3 := ((((HG.out.trans (G2.below (bdn (Below.refl _ _) 1))).trans (G2.below hb1)).trans (G2.right hGF)).trans (G2.left hG3))
        have hu3 : v3 = v ∨ FreshV w.heap.size v3 := hF3.elim (fun h => by rw [h]; exact HU.out) (fun h => .inr (h.mono (((HG.out.trans (G2.below (bdn (Below.refl _ _) 1))).trans (G2.below hb1)).trans (G2.right hGF)).size))
        have HR3 := Lib.hid (turnW_go HRi.out hk)
        clear HP
        go_wp2_with fail
        exact ⟨⟨i + 1, v3, vf', _, fr.tail, hi1, rfl, Nat.le_trans (wrL_len _ _ _ _) hy, T3, HR3, Lib.hid hu3, Lib.hid hg3⟩, hm⟩
      · refine goesP_ Try.func50 (by kernel_rfl) rfl #[.pointer (some ⟨gs, 0, none⟩), .int .i64 (placeD ys g i), .int .i64 g, .int .i64 (i + 1), .string p, fltV (fr.headD fz)] (by rfl) rfl (by (try simp only [List.map_toArray, List.map_cons, List.map_nil]); first | done | rfl) ?_
        refine (swrite_any gs _ ys gen used top (placeD ys g i) g (i + 1) p (fr.headD fz) _ T2.out.bs T2.out.ss T2.out.ns).mono ?_
        rintro e w3 ⟨v3, rfl, hB3, hS3, hF3, hG3⟩
        refine ⟨_, by unfold wrEnd; rw [if_neg hk], ?_⟩
        have hg3 : G2 gs gF w w3 := ((((HG.out.trans (G2.below (bdn (Below.refl _ _) 1))).trans (G2.below hb1)).trans (G2.right hGF)).trans (G2.left hG3))
        have hu3 : v3 = v ∨ FreshV w.heap.size v3 := hF3.elim (fun h => by rw [h]; exact HU.out) (fun h => .inr (h.mono (((HG.out.trans (G2.below (bdn (Below.refl _ _) 1))).trans (G2.below hb1)).trans (G2.right hGF)).size))
        have HR3 := Lib.hid (turnW_stop HRi.out hk)
        refine And.intro rfl ?_
        rw [HQ.out]
        refine ⟨v3, by unfold wrEnd; rw [HR3.out, if_neg hk], ?_, by rw [HR3.out]; exact hS3, hu3, hg3⟩
        rw [HR3.out, if_neg hk, if_neg hk]
        exact hB3
    · obtain rfl : i = l.length := by omega
      have hdrop : l.drop l.length = [] := List.drop_length
      rw [hdrop] at HRi
      clear hdrop
      obtain ⟨a0, c0, rfl, _, _⟩ := HTi.out.ss.form
      go_wp2_with fail
      as_aux_lemma =>
      have TD : Hid (TS gs gF gl gg gn (.slice a0 ys.length c0) vf (.slice a1 l.length c1) ys l fr gen used top g wr.drew) := Lib.hid (HTi.out.below (bdn (Below.refl _ _) 1))
      clear HTi
      refine start_ (n := 6) (S := fun w' => w'.cell? ⟨gs, 0, none⟩ = some (Value.slice a0 ys.length c0) ∧ w'.cell? ⟨gg, 0, none⟩ = some (.int .i64 g) ∧ w'.cell? ⟨gn, 0, none⟩ = some (.func (.func 51) #[] #[.pointer (some ⟨gF, 0, none⟩)])) (ds := [5]) #[false, false, false, false, false, false] (by kernel_rfl) rfl rfl ⟨TD.out.c0, TD.out.cg, TD.out.cn⟩ (fun hHeld => ?_)
      refine take_ (i := 0) (N := some 26) (v := ?_) (a' := ?_) #[true, false, false, false, false, false] rfl rfl (by kernel_rfl) (fun _ _ _ h => h) (Or.inl ⟨by rfl, ?_⟩) hHeld ?_ ?_
      rotate_left
      · rintro w' ⟨s0, s1, s2⟩
        go_simp
        with_reducible rfl
      rotate_left
      · simp only [Act.put, List.setIfInBounds_toArray, List.set_cons_zero, List.set_cons_succ, i64_w, i32_w]
        rfl
      refine pure_ (i := 1) (N := some 27) (v := ?_) (a' := ?_) #[true, true, false, false, false, false] rfl rfl (by kernel_rfl) (fun _ _ _ h => h) (Or.inl ⟨by rfl, ?_⟩) ?_ ?_
      rotate_left
      · intro w'
        go_simp
        with_reducible rfl
      rotate_left
      · simp only [Act.put, List.setIfInBounds_toArray, List.set_cons_zero, List.set_cons_succ, i64_w, i32_w]
        rfl
      refine take_ (i := 2) (N := some 28) (v := ?_) (a' := ?_) #[true, true, true, false, false, false] rfl rfl (by kernel_rfl) (fun _ _ _ h => h) (Or.inl ⟨by rfl, ?_⟩) hHeld ?_ ?_
      rotate_left
      · rintro w' ⟨s0, s1, s2⟩
        go_simp
        with_reducible rfl
      rotate_left
      · simp only [Act.put, List.setIfInBounds_toArray, List.set_cons_zero, List.set_cons_succ, i64_w, i32_w]
        rfl
      refine take_ (i := 3) (N := some 29) (v := ?_) (a' := ?_) #[true, true, true, true, false, false] rfl rfl (by kernel_rfl) (fun _ _ _ h => h) (Or.inl ⟨by rfl, ?_⟩) hHeld ?_ ?_
      rotate_left
      · rintro w' ⟨s0, s1, s2⟩
        go_simp
        with_reducible rfl
      rotate_left
      · simp only [Act.put, List.setIfInBounds_toArray, List.set_cons_zero, List.set_cons_succ, i64_w, i32_w]
        rfl
      refine one_ (i := 4) (N := some 30) #[true, true, true, true, true, false] rfl rfl (by kernel_rfl) (by decide) (fun K hK => ?_)
      refine goesC_ 51 #[.pointer (some ⟨gF, 0, none⟩)] (by rfl) rfl rfl (by rfl) henN ?_
      refine (next_any gF vf fr _ TD.out.bF TD.out.sF TD.out.nF).mono ?_
      rintro e w2 ⟨vf', rfl, hBF, hSF, hNF, hGF⟩
      refine ⟨_, rfl, ?_⟩
      have T2 := Lib.hid (TS.next TD.out hBF hSF hNF hGF)
      refine hK.out _ _ ⟨T2.out.c0, T2.out.cg, T2.out.cn⟩ (fun hHeld => ?_)
      clear hK K
      refine norm_ (a' := ?_) ?_ ?_
      rotate_left
      · show Act.put _ (some 30) _ = _
        simp only [Act.put, List.setIfInBounds_toArray, List.set_cons_zero, List.set_cons_succ, i64_w, i32_w]
        rfl
      refine last_ (i := 5) (N := some 31) #[true, true, true, true, true, true] rfl rfl (by kernel_rfl) (by decide) (fun K hK => ?_)
      by_cases hk : (wrL ys (g.tmod 2) (sealS g 0 ⟨#[]⟩) (fr.headD fz)).2 = 0
      · refine goes_ Try.func50 (by kernel_rfl) rfl #[.pointer (some ⟨gs, 0, none⟩), .int .i64 (g.tmod 2), .int .i64 g, .int .i64 0, .string ⟨#[]⟩, fltV (fr.headD fz)] (by rfl) rfl rfl (by (try simp only [List.map_toArray, List.map_cons, List.map_nil]); first | done | rfl) ?_
        refine (swrite_any gs _ ys gen used top (g.tmod 2) g 0 ⟨#[]⟩ (fr.headD fz) _ T2.out.bs T2.out.ss T2.out.ns).mono ?_
        rintro e w3 ⟨v3, rfl, hB3, hS3, hF3, hG3⟩
        refine ⟨.tuple #[], by unfold wrEnd; rw [if_pos hk], ?_⟩
        refine hK.out _ _ ?_
        clear hK K
        refine norm_ (a' := ?_) ?_ ?_
        rotate_left
        · show Act.put _ (some 31) _ = _
          simp only [Act.put, List.setIfInBounds_toArray, List.set_cons_zero, List.set_cons_succ, i64_w, i32_w]
          rfl
        refine done_ (by kernel_rfl) ?_
        have T3 := Lib.hid (T2.out.wrote (by rw [show decide ((wrL ys (g.tmod 2) (sealS g 0 ⟨#[]⟩) (fr.headD fz)).2 = 9) = false by rw [hk]; rfl] at hB3; exact hB3) hS3 hF3 hG3)
        have hg3 : G2 gs gF w w3 := (((HG.out.trans (G2.below (bdn (Below.refl _ _) 1))).trans (G2.right hGF)).trans (G2.left hG3))
        have hu3 : v3 = v ∨ FreshV w.heap.size v3 := hF3.elim (fun h => by rw [h]; exact HU.out) (fun h => .inr (h.mono ((HG.out.trans (G2.below (bdn (Below.refl _ _) 1))).trans (G2.right hGF)).size))
        have x0 := T3.out.cg
        have x1 := T3.out.cl
        have f1 := blk_free T3.out.bs 1
        have f2 := blk_free T3.out.bs 2
        have y1 := blk_cell T3.out.bs (j := 1) rfl
        have y2 := blk_cell T3.out.bs (j := 2) rfl
        have HR3 := Lib.hid (turnW_nil g0 HRi.out)
        go_wp2_with fail
        all_goals
          refine bodyPost_ret (v := .tuple #[]) (by simp [results, Try.results52, go_sem]) rfl ?_
          rw [HQ.out]
          refine ⟨v3, by unfold wrEnd; rw [HR3.out, if_pos hk], ?_, ?_, hu3, hg3.trans (G2.left (gr_set4 (gr_set4 (World.grownBy.refl w3 (some gs)) _) _))⟩
          · rw [HR3.out, if_pos hk, if_pos hk, show decide ((wrL ys (g.tmod 2) (sealS g 0 ⟨#[]⟩) (fr.headD fz)).2 = 9) = false by rw [hk]; rfl]
            exact blk_set (blk_set T3.out.bs 1 _) 2 _
          · rw [HR3.out]
            exact (T3.out.ss.store (p := ⟨gs, 1, none⟩) T3.out.ns _).store (p := ⟨gs, 2, none⟩) T3.out.ns _
      · refine goesP_ Try.func50 (by kernel_rfl) rfl #[.pointer (some ⟨gs, 0, none⟩), .int .i64 (g.tmod 2), .int .i64 g, .int .i64 0, .string ⟨#[]⟩, fltV (fr.headD fz)] (by rfl) rfl (by (try simp only [List.map_toArray, List.map_cons, List.map_nil]); first | done | rfl) ?_
        refine (swrite_any gs _ ys gen used top (g.tmod 2) g 0 ⟨#[]⟩ (fr.headD fz) _ T2.out.bs T2.out.ss T2.out.ns).mono ?_
        rintro e w3 ⟨v3, rfl, hB3, hS3, hF3, hG3⟩
        refine ⟨_, by unfold wrEnd; rw [if_neg hk], ?_⟩
        have hg3 : G2 gs gF w w3 := (((HG.out.trans (G2.below (bdn (Below.refl _ _) 1))).trans (G2.right hGF)).trans (G2.left hG3))
        have hu3 : v3 = v ∨ FreshV w.heap.size v3 := hF3.elim (fun h => by rw [h]; exact HU.out) (fun h => .inr (h.mono ((HG.out.trans (G2.below (bdn (Below.refl _ _) 1))).trans (G2.right hGF)).size))
        have HR3 := Lib.hid (turnW_nil g0 HRi.out)
        refine And.intro rfl ?_
        rw [HQ.out]
        refine ⟨v3, by unfold wrEnd; rw [HR3.out, if_neg hk], ?_, by rw [HR3.out]; exact hS3, hu3, hg3⟩
        rw [HR3.out, if_neg hk, if_neg hk]
        exact hB3
end Go.Proofs.Ytopaddpclipnjaa
namespace Go.Proofs.Ytopaddpclipnjaa
open Go.RowKit Go.Proofs.YtopaddpclipnjaaW.PrintLast
theorem G2.setnew {g1 g2 : Nat} {w w1 : World} (h : G2 g1 g2 w w1) {b j : Nat} (hb : w.heap.size ≤ b) (u : Value) : G2 g1 g2 w (w1.setCell ⟨b, j, none⟩ u) :=
  ⟨h.os, h.tape, h.output, by have := h.size; simpa [World.setCell] using this, fun i hi p q => (Below.heap_setCell w1 ⟨b, j, none⟩ u i (by show i ≠ b; omega)).trans (h.block i hi p q)⟩
theorem tstop_any (gs gF gl gg gn : Nat) (v vf v1 : Value) (xs l : List ByteArray) (fs : List Flt) (gen used top g : Int) (w : World) (hT : TS gs gF gl gg gn v vf v1 xs l fs gen used top g w) (hx : xs.length ≤ 1000) (hx0 : 0 < xs.length) (g0 : 0 ≤ g) (g1 : g ≤ 1000) (hl : l.length ≤ 900) :
    Calls Try.prog 48 #[.func (.func 52) #[] #[.pointer (some ⟨gl, 0, none⟩), .pointer (some ⟨gs, 0, none⟩), .pointer (some ⟨gg, 0, none⟩), .pointer (some ⟨gn, 0, none⟩)]] w fun e w' =>
      ∃ v', e = .returned (.int .i64 (turnW g xs 0 l fs).2) ∧ w'.heap[gs]? = some (.cells (SC v' (if (turnW g xs 0 l fs).2 = 0 then g else gen) (if (turnW g xs 0 l fs).2 = 0 then l.length else used) top (decide ((turnW g xs 0 l fs).2 = 9))) 26 (0, 0)) ∧ SlAt w' v' 1 (turnW g xs 0 l fs).1.length (strs (turnW g xs 0 l fs).1) ∧ (v' = v ∨ FreshV w.heap.size v') ∧ G2 gs gF w w' := by
  have he : Enters Try.prog 52 := enters_of Try.func52 (by kernel_rfl) rfl
  have ha := turn2_any gs gF gl gg gn v vf v1 xs l fs gen used top g _ (hT.below (bal (Below.refl _ _) (.cells #[.int .i64 0] 29))) hx g0 g1 hl
  have hs := blk_lt hT.bs
  have hF := blk_lt hT.bF
  have hns := hT.ns
  have hsz : (w.alloc (.cells #[.int .i64 0] 29)).heap.size = w.heap.size + 1 := size_alloc _ _
  have hvd : ∀ b, v.ownBlock = some b → b < w.heap.size := fun b hb => slat_far hT.ss hx0 hb
  obtain ⟨R, hR⟩ : ∃ R, R = turnW g xs 0 l fs := ⟨_, rfl⟩
  rw [← hR] at ha ⊢
  unfold TEnd at ha
  by_cases hk : R.2 = 0
  · refine (stop_ret _ _ w (fun w1 => ∃ v', w1.heap[gs]? = some (.cells (SC v' (if R.2 = 0 then g else gen) (if R.2 = 0 then (l.length : Int) else used) top (decide (R.2 = 9))) 26 (0, 0)) ∧ SlAt w1 v' 1 R.1.length (strs R.1) ∧ (v' = v ∨ FreshV (w.heap.size + 1) v') ∧ G2 gs gF (w.alloc (.cells #[.int .i64 0] 29)) w1) he (ha.mono ?_)).mono ?_
    · rintro e w' ⟨v', rfl, k1, k2, k3, k4⟩
      refine ⟨by unfold wrEnd; rw [if_pos hk], (k4.block w.heap.size (by omega) (by omega) (by omega)).trans (blk_new w _), v', k1, k2, by rw [hsz] at k3; exact k3, k4⟩
    · rintro e w' ⟨w1, ⟨v', k1, k2, k3, k4⟩, rfl, rfl⟩
      refine ⟨v', by rw [hk], blk_set_far k1 (by show gs ≠ w.heap.size; omega) _, ?_, k3.imp id (fun h => h.mono (by omega)), ((G2.below (bal (Below.refl _ _) _)).trans k4).setnew (Nat.le_refl _) _⟩
      exact (k2.store (p := ⟨w.heap.size, 0, none⟩) (fun b hb => k3.elim (fun h => by subst h; have := hvd b hb; show b ≠ w.heap.size; omega) (fun h => by have := h b hb; show b ≠ w.heap.size; omega)) _)
  · refine (stop_pan _ _ R.2 w (fun w1 => ∃ v', w1.heap[gs]? = some (.cells (SC v' (if R.2 = 0 then g else gen) (if R.2 = 0 then (l.length : Int) else used) top (decide (R.2 = 9))) 26 (0, 0)) ∧ SlAt w1 v' 1 R.1.length (strs R.1) ∧ (v' = v ∨ FreshV (w.heap.size + 1) v') ∧ G2 gs gF (w.alloc (.cells #[.int .i64 0] 29)) w1) he (ha.mono ?_)).mono ?_
    · rintro e w' ⟨v', rfl, k1, k2, k3, k4⟩
      refine ⟨by unfold wrEnd; rw [if_neg hk], (k4.block w.heap.size (by omega) (by omega) (by omega)).trans (blk_new w _), v', k1, k2, by rw [hsz] at k3; exact k3, k4⟩
    · rintro e w' ⟨w1, ⟨v', k1, k2, k3, k4⟩, rfl, rfl⟩
      refine ⟨v', rfl, blk_set_far (blk_alloc _ k1) (by show gs ≠ w.heap.size; omega) _, ?_, k3.imp id (fun h => h.mono (by omega)), (((G2.below (bal (Below.refl _ _) _)).trans k4).trans (G2.below (bal (Below.refl _ _) _))).setnew (Nat.le_refl _) _⟩
      exact ((k2.alloc _).store (p := ⟨w.heap.size, 0, none⟩) (fun b hb => k3.elim (fun h => by subst h; have := hvd b hb; show b ≠ w.heap.size; omega) (fun h => by have := h b hb; show b ≠ w.heap.size; omega)) _)
def nextG (s : Sto) : Int := if (s.top + 1) % 2 = s.gen % 2 then s.top + 2 else s.top + 1
def turnS (s : Sto) (l : List ByteArray) (fs : List Flt) : Sto × Int :=
  if mayS s l fs = 0 then (if areaD s.xs < l.length ∨ 250 < nextG s then (Sto.zero, 5)
    else (⟨(turnW (nextG s) s.xs 0 l fs).1, if (turnW (nextG s) s.xs 0 l fs).2 = 0 then nextG s else s.gen, if (turnW (nextG s) s.xs 0 l fs).2 = 0 then l.length else s.used, nextG s, decide ((turnW (nextG s) s.xs 0 l fs).2 = 9)⟩, (turnW (nextG s) s.xs 0 l fs).2))
  else (Sto.zero, mayS s l fs)
theorem b4d (w : World) (o1 o2 o3 o4 : Obj) : ((((w.alloc o1).alloc o2).alloc o3).alloc o4).heap[w.heap.size + 1 + 1 + 1]? = some o4 := by
  have := blk_new (((w.alloc o1).alloc o2).alloc o3) o4
  rwa [size_alloc, size_alloc, size_alloc] at this
theorem b4c (w : World) (o1 o2 o3 o4 : Obj) : ((((w.alloc o1).alloc o2).alloc o3).alloc o4).heap[w.heap.size + 1 + 1]? = some o3 := by
  have := blk_alloc o4 (blk_new ((w.alloc o1).alloc o2) o3)
  rwa [size_alloc, size_alloc] at this
theorem b4b (w : World) (o1 o2 o3 o4 : Obj) : ((((w.alloc o1).alloc o2).alloc o3).alloc o4).heap[w.heap.size + 1]? = some o2 := by
  have := blk_alloc o4 (blk_alloc o3 (blk_new (w.alloc o1) o2))
  rwa [size_alloc] at this
theorem b4a (w : World) (o1 o2 o3 o4 : Obj) : ((((w.alloc o1).alloc o2).alloc o3).alloc o4).heap[w.heap.size]? = some o1 := blk_alloc o4 (blk_alloc o3 (blk_alloc o2 (blk_new w o1)))
theorem turn_bad (s : Sto) (v v1 v2 : Value) (l : List ByteArray) (fs : List Flt) (k : Int) (w : World) (hS : SlAt w v 1 s.xs.length (strs s.xs)) (h1 : SlAt w v1 1 l.length (strs l)) (h2 : SlAt w v2 2 fs.length (fltsC fs)) (hm : mayS s l fs = k) (hk : k ≠ 0) :
    Calls Try.prog 22 #[s.val v, v1, v2] w (StoRes Sto.zero k v w) := by
  have HM := Lib.hid (fun W (h : SlAt W v 1 s.xs.length (strs s.xs)) (h1 : SlAt W v1 1 l.length (strs l)) (h2 : SlAt W v2 2 fs.length (fltsC fs)) => by have := storeMay_any s v v1 v2 l fs W h h1 h2; rw [hm] at this; exact this)
  have HS := Lib.hid hS
  have H1 := Lib.hid h1
  have H2 := Lib.hid h2
  obtain ⟨xs, gen, used, top, down⟩ := s
  obtain ⟨a, c, rfl, _, _⟩ := hS.form
  obtain ⟨a1, c1, rfl, _, _⟩ := h1.form
  obtain ⟨a2, c2, rfl, _, _⟩ := h2.form
  have hne : (k != 0) = true := by simpa using hk
  clear hS hm hk h1 h2
  unfold Sto.val at *
  go_enter Try.func22, Try.ntmps22
  go_wp2_with (first
    | (go_at_call 47; refine (HM.out _ (HS.out.stay (bal (bal (bal (bal (Below.refl _ _) _) _) _) _)) (H1.out.stay (bal (bal (bal (bal (Below.refl _ _) _) _) _) _)) (H2.out.stay (bal (bal (bal (bal (Below.refl _ _) _) _) _) _))).mono ?_; rintro e w1 ⟨rfl, hb1⟩; have K4 := Lib.hid (blk_call hb1 (b4d w _ _ _ _)); have x0 := blk_cell K4.out (j := 0) rfl; have x1 := blk_cell K4.out (j := 1) rfl; have x2 := blk_cell K4.out (j := 2) rfl; have x3 := blk_cell K4.out (j := 3) rfl; have x4 := blk_cell K4.out (j := 4) rfl; have f0 := blk_free K4.out 0; have f1 := blk_free K4.out 1; have f2 := blk_free K4.out 2; have f3 := blk_free K4.out 3; have f4 := blk_free K4.out 4))
  have hw1 := bel (bal (bal (bal (bal (Below.refl w.heap.size w) _) _) _) _) hb1
  refine bodyPost_ret (v := .tuple #[Sto.zero.val (.slice none 0 0), .int .i64 k]) ?_ rfl ?_
  · simp [results, Try.results22, go_sem, Sto.val, Sto.zero, x0, x1, x2, x3, x4]
  · refine ⟨.slice none 0 0, rfl, .inr (FreshV.nil _ _ _), SlAt.nil _ _, ?_⟩
    exact bset (bset (bset (bset (bset hw1 (show w.heap.size ≤ w.heap.size + 1 + 1 + 1 by omega) _) (show w.heap.size ≤ w.heap.size + 1 + 1 + 1 by omega) _) (show w.heap.size ≤ w.heap.size + 1 + 1 + 1 by omega) _) (show w.heap.size ≤ w.heap.size + 1 + 1 + 1 by omega) _) (show w.heap.size ≤ w.heap.size + 1 + 1 + 1 by omega) _
end Go.Proofs.Ytopaddpclipnjaa
namespace Go.Proofs.Ytopaddpclipnjaa
open Go.RowKit Go.Proofs.YtopaddpclipnjaaW.PrintLast
set_option maxRecDepth 100000 in
set_option maxHeartbeats 8000000 in
theorem far_ne {b n : Nat} (h : b < n) (k : Nat) : b ≠ n + k := by omega
theorem add_ne (n j k : Nat) (h : j ≠ k) : n + j ≠ n + k := by omega
set_option maxRecDepth 100000 in
set_option maxHeartbeats 8000000 in
theorem turn_full (xs : List ByteArray) (gen used top G : Int) (down : Bool) (v v1 v2 : Value) (l : List ByteArray) (fs : List Flt) (w : World) (hS : SlAt w v 1 xs.length (strs xs)) (h1 : SlAt w v1 1 l.length (strs l)) (h2 : SlAt w v2 2 fs.length (fltsC fs)) (hm : mayS ⟨xs, gen, used, top, down⟩ l fs = 0)
    (g0 : 0 ≤ gen) (t0 : 0 ≤ top) (t1 : top ≤ 1000) (hG : ((top + 1) % 2 == gen % 2) = true ∧ G = top + 1 + 1 ∨ ((top + 1) % 2 == gen % 2) = false ∧ G = top + 1) (hL : areaD xs < l.length) :
    Calls Try.prog 22 #[.agg (SC v gen used top down), v1, v2] w (StoRes Sto.zero 5 v w) := by
  have HM := Lib.hid (fun W (h : SlAt W v 1 xs.length (strs xs)) (h1 : SlAt W v1 1 l.length (strs l)) (h2 : SlAt W v2 2 fs.length (fltsC fs)) => by have := storeMay_any ⟨xs, gen, used, top, down⟩ v v1 v2 l fs W h h1 h2; rw [hm] at this; exact this)
  have HS := Lib.hid hS
  have H1 := Lib.hid h1
  have H2 := Lib.hid h2
  obtain ⟨a, c, rfl, _, _⟩ := hS.form
  obtain ⟨a1, c1, rfl, _, _⟩ := h1.form
  obtain ⟨a2, c2, rfl, _, _⟩ := h2.form
  have HA := Lib.hid (fun W (h : SlAt W (Value.slice a xs.length c) 1 xs.length (strs xs)) => area_any _ xs W h)
  obtain ⟨A, hA⟩ : ∃ A, A = areaD xs := ⟨_, rfl⟩
  rw [← hA] at HA hL
  obtain ⟨e1, e2⟩ := small64 (top + 1) (by omega) (by omega)
  obtain ⟨e3, e4⟩ := small64 (top + 1 + 1) (by omega) (by omega)
  clear hS hm h1 h2 hA
  have hLb : decide (A < (l.length : Int)) = true := by simpa using hL
  clear hL
  unfold Sto.val at *
  rcases hG with ⟨hp, rfl⟩ | ⟨hp, rfl⟩
  all_goals
    go_enter Try.func22, Try.ntmps22
    go_wp2_with (first
      | (go_at_call 47; refine (HM.out _ (HS.out.stay (bal (bal (bal (bal (Below.refl _ _) _) _) _) _)) (H1.out.stay (bal (bal (bal (bal (Below.refl _ _) _) _) _) _)) (H2.out.stay (bal (bal (bal (bal (Below.refl _ _) _) _) _) _))).mono ?_; rintro e w1 ⟨rfl, hb1⟩; have K1 := Lib.hid (blk_call hb1 (b4a w _ _ _ _)); have K2 := Lib.hid (blk_call hb1 (b4b w _ _ _ _)); have K3 := Lib.hid (blk_call hb1 (b4c w _ _ _ _)); have K4 := Lib.hid (blk_call hb1 (b4d w _ _ _ _)); have c3 := blk_cell K1.out (j := 3) rfl; have y1 := fun o => blk_cell (blk_alloc o K1.out) (j := 1) rfl; have sz1 := hb1.size))
  all_goals
    have hw1 := bel (bal (bal (bal (bal (Below.refl w.heap.size w) _) _) _) _) hb1
  all_goals first | (have hz : ((top + 1) % 2 == gen % 2) = true := hp; generalize hgg : top + 1 + 1 = g at *) | (generalize hgg : top + 1 = g at *)
  all_goals
    have hd1 : SlAt (w1.alloc (.cells #[.int .i64 g] 3)).drew (Value.slice a xs.length c) 1 xs.length (strs xs) := HS.out.stay (bdn (bal hw1 _) 1)
    have B1 : Hid ((w1.alloc (.cells #[.int .i64 g] 3)).drew.heap[w.heap.size]? = _) := Lib.hid (blk_alloc _ K1.out)
    have B2 : Hid ((w1.alloc (.cells #[.int .i64 g] 3)).drew.heap[w.heap.size + 1]? = _) := Lib.hid (blk_alloc _ K2.out)
    have B3 : Hid ((w1.alloc (.cells #[.int .i64 g] 3)).drew.heap[w.heap.size + 1 + 1]? = _) := Lib.hid (blk_alloc _ K3.out)
    have B4 : Hid ((w1.alloc (.cells #[.int .i64 g] 3)).drew.heap[w.heap.size + 1 + 1 + 1]? = _) := Lib.hid (blk_alloc _ K4.out)
    have Bg : Hid ((w1.alloc (.cells #[.int .i64 g] 3)).drew.heap[w1.heap.size]? = _) := Lib.hid (blk_new w1 _)
    refine start_ (n := 10) (S := fun w' => w'.cell? ⟨w.heap.size + 1, 0, none⟩ = some (Value.slice a1 l.length c1) ∧ w'.cell? ⟨w.heap.size, 0, none⟩ = some (Value.slice a xs.length c) ∧ w'.cell? ⟨w1.heap.size, 0, none⟩ = some (.int .i64 g)) (ds := []) #[false, false, false, false, false, false, false, false, false, false] (by kernel_rfl) rfl rfl ⟨blk_cell B2.out (j := 0) rfl, blk_cell B1.out (j := 0) rfl, blk_cell Bg.out (j := 0) rfl⟩ (fun hHeld => ?_)
    refine take_ (i := 0) (N := some 31) (v := ?_) (a' := ?_) #[true, false, false, false, false, false, false, false, false, false] rfl rfl (by kernel_rfl) (fun _ _ _ h => h) (Or.inl ⟨by rfl, ?_⟩) hHeld ?_ ?_
    rotate_left
    · rintro w' ⟨s0, s1, s2⟩
      go_simp
      with_reducible rfl
    rotate_left
    · simp only [Act.put, List.setIfInBounds_toArray, List.set_cons_zero, List.set_cons_succ, i64_w, i32_w]
      rfl
    refine pure_ (i := 1) (N := some 32) (v := ?_) (a' := ?_) #[true, true, false, false, false, false, false, false, false, false] rfl rfl (by kernel_rfl) (fun _ _ _ h => h) (Or.inl ⟨by rfl, ?_⟩) ?_ ?_
    rotate_left
    · intro w'
      go_simp
      with_reducible rfl
    rotate_left
    · simp only [Act.put, List.setIfInBounds_toArray, List.set_cons_zero, List.set_cons_succ, i64_w, i32_w]
      rfl
    refine pure_ (i := 2) (N := some 33) (v := ?_) (a' := ?_) #[true, true, true, false, false, false, false, false, false, false] rfl rfl (by kernel_rfl) (fun _ _ _ h => h) (Or.inl ⟨by rfl, ?_⟩) ?_ ?_
    rotate_left
    · intro w'
      go_simp
      with_reducible rfl
    rotate_left
    · simp only [Act.put, List.setIfInBounds_toArray, List.set_cons_zero, List.set_cons_succ, i64_w, i32_w]
      rfl
    refine take_ (i := 3) (N := some 34) (v := ?_) (a' := ?_) #[true, true, true, true, false, false, false, false, false, false] rfl rfl (by kernel_rfl) (fun _ _ _ h => h) (Or.inl ⟨by rfl, ?_⟩) hHeld ?_ ?_
    rotate_left
    · rintro w' ⟨s0, s1, s2⟩
      go_simp
      with_reducible rfl
    rotate_left
    · simp only [Act.put, List.setIfInBounds_toArray, List.set_cons_zero, List.set_cons_succ, i64_w, i32_w]
      rfl
    refine one_ (i := 4) (N := some 35) #[true, true, true, true, true, false, false, false, false, false] rfl rfl (by kernel_rfl) (by decide) (fun K hK => ?_)
    refine goes_ Try.func37 (by kernel_rfl) rfl #[.agg #[.slice a xs.length c]] (by rfl) rfl rfl (by (try simp only [List.map_toArray, List.map_cons, List.map_nil]); first | done | rfl) ?_
    refine (HA.out _ hd1).mono ?_
    rintro e w2 ⟨rfl, hb2⟩
    refine ⟨_, rfl, ?_⟩
    have J1 := Lib.hid (blk_call hb2 B1.out)
    have J2 := Lib.hid (blk_call hb2 B2.out)
    have J3 := Lib.hid (blk_call hb2 B3.out)
    have J4 := Lib.hid (blk_call hb2 B4.out)
    have Jg := Lib.hid (blk_call hb2 Bg.out)
    refine hK.out _ _ ⟨blk_cell J2.out (j := 0) rfl, blk_cell J1.out (j := 0) rfl, blk_cell Jg.out (j := 0) rfl⟩ (fun hHeld => ?_)
    clear hK K
    refine norm_ (a' := ?_) ?_ ?_
    rotate_left
    · show Act.put _ (some 35) _ = _
      simp only [Act.put, List.setIfInBounds_toArray, List.set_cons_zero, List.set_cons_succ, i64_w, i32_w]
      rfl
    refine pure_ (i := 5) (N := some 36) (v := ?_) (a' := ?_) #[true, true, true, true, true, true, false, false, false, false] rfl rfl (by kernel_rfl) (fun _ _ _ h => h) (Or.inl ⟨by rfl, ?_⟩) ?_ ?_
    rotate_left
    · intro w'
      go_simp
      with_reducible rfl
    rotate_left
    · simp only [Act.put, List.setIfInBounds_toArray, List.set_cons_zero, List.set_cons_succ, i64_w, i32_w]
      rfl
    refine pure_ (i := 6) (N := some 37) (v := ?_) (a' := ?_) #[true, true, true, true, true, true, true, false, false, false] rfl rfl (by kernel_rfl) (fun _ _ _ h => h) (Or.inl ⟨by rfl, ?_⟩) ?_ ?_
    rotate_left
    · intro w'
      go_simp
      with_reducible rfl
    rotate_left
    · simp only [Act.put, List.setIfInBounds_toArray, List.set_cons_zero, List.set_cons_succ, i64_w, i32_w]
      rfl
    refine pure_ (i := 7) (N := some 38) (v := undef) (a' := ?_) #[true, true, true, true, true, true, true, true, false, false] rfl rfl (by kernel_rfl) (fun _ _ _ h => h) (Or.inr ⟨by rfl, rfl⟩) ?_ ?_
    rotate_left
    · simp only [Act.put, List.setIfInBounds_toArray, List.set_cons_zero, List.set_cons_succ, i64_w, i32_w]
      rfl
    refine pure_ (i := 8) (N := some 39) (v := undef) (a' := ?_) #[true, true, true, true, true, true, true, true, true, false] rfl rfl (by kernel_rfl) (fun _ _ _ h => h) (Or.inr ⟨by rfl, rfl⟩) ?_ ?_
    rotate_left
    · simp only [Act.put, List.setIfInBounds_toArray, List.set_cons_zero, List.set_cons_succ, i64_w, i32_w]
      rfl
    refine pure_ (i := 9) (N := some 40) (v := ?_) (a' := ?_) #[true, true, true, true, true, true, true, true, true, true] rfl rfl (by kernel_rfl) (fun _ _ _ h => h) (Or.inl ⟨by rfl, ?_⟩) ?_ ?_
    rotate_left
    · intro w'
      go_simp
      with_reducible rfl
    rotate_left
    · simp only [Act.put, List.setIfInBounds_toArray, List.set_cons_zero, List.set_cons_succ, i64_w, i32_w]
      rfl
    refine done_ (by kernel_rfl) ?_
    have x0 := blk_cell J4.out (j := 0) rfl
    have x1 := blk_cell J4.out (j := 1) rfl
    have x2 := blk_cell J4.out (j := 2) rfl
    have x3 := blk_cell J4.out (j := 3) rfl
    have x4 := blk_cell J4.out (j := 4) rfl
    have f0 := blk_free J4.out 0
    have f1 := blk_free J4.out 1
    have f2 := blk_free J4.out 2
    have f3 := blk_free J4.out 3
    have f4 := blk_free J4.out 4
    go_wp2
    have hw2 := bel (bdn (bal hw1 (.cells #[.int .i64 g] 3)) 1) hb2
    refine bodyPost_ret (v := .tuple #[Sto.zero.val (.slice none 0 0), .int .i64 5]) ?_ rfl ?_
    · simp [results, Try.results22, go_sem, Sto.val, Sto.zero, x0, x1, x2, x3, x4]
    · refine ⟨.slice none 0 0, rfl, .inr (FreshV.nil _ _ _), SlAt.nil _ _, ?_⟩
      exact bset (bset (bset (bset (bset hw2 (show w.heap.size ≤ w.heap.size + 1 + 1 + 1 by omega) _) (show w.heap.size ≤ w.heap.size + 1 + 1 + 1 by omega) _) (show w.heap.size ≤ w.heap.size + 1 + 1 + 1 by omega) _) (show w.heap.size ≤ w.heap.size + 1 + 1 + 1 by omega) _) (show w.heap.size ≤ w.heap.size + 1 + 1 + 1 by omega) _
set_option maxRecDepth 100000 in
set_option maxHeartbeats 8000000 in
theorem turn_full2 (xs : List ByteArray) (gen used top G : Int) (down : Bool) (v v1 v2 : Value) (l : List ByteArray) (fs : List Flt) (w : World) (hS : SlAt w v 1 xs.length (strs xs)) (h1 : SlAt w v1 1 l.length (strs l)) (h2 : SlAt w v2 2 fs.length (fltsC fs)) (hm : mayS ⟨xs, gen, used, top, down⟩ l fs = 0)
    (g0 : 0 ≤ gen) (t0 : 0 ≤ top) (t1 : top ≤ 1000) (hG : ((top + 1) % 2 == gen % 2) = true ∧ G = top + 1 + 1 ∨ ((top + 1) % 2 == gen % 2) = false ∧ G = top + 1) (hL : ¬ areaD xs < l.length) (hG2 : 250 < G) :
    Calls Try.prog 22 #[.agg (SC v gen used top down), v1, v2] w (StoRes Sto.zero 5 v w) := by
  have HM := Lib.hid (fun W (h : SlAt W v 1 xs.length (strs xs)) (h1 : SlAt W v1 1 l.length (strs l)) (h2 : SlAt W v2 2 fs.length (fltsC fs)) => by have := storeMay_any ⟨xs, gen, used, top, down⟩ v v1 v2 l fs W h h1 h2; rw [hm] at this; exact this)
  have HS := Lib.hid hS
  have H1 := Lib.hid h1
  have H2 := Lib.hid h2
  obtain ⟨a, c, rfl, _, _⟩ := hS.form
  obtain ⟨a1, c1, rfl, _, _⟩ := h1.form
  obtain ⟨a2, c2, rfl, _, _⟩ := h2.form
  have HA := Lib.hid (fun W (h : SlAt W (Value.slice a xs.length c) 1 xs.length (strs xs)) => area_any _ xs W h)
  obtain ⟨A, hA⟩ : ∃ A, A = areaD xs := ⟨_, rfl⟩
  rw [← hA] at HA hL
  obtain ⟨e1, e2⟩ := small64 (top + 1) (by omega) (by omega)
  obtain ⟨e3, e4⟩ := small64 (top + 1 + 1) (by omega) (by omega)
  clear hS hm h1 h2 hA
  have hLb : decide (A < (l.length : Int)) = false := by simpa using hL
  have hGb : decide (250 < G) = true := by simpa using hG2
  clear hL hG2
  unfold Sto.val at *
  rcases hG with ⟨hp, rfl⟩ | ⟨hp, rfl⟩
  all_goals
    go_enter Try.func22, Try.ntmps22
    go_wp2_with (first
      | (go_at_call 47; refine (HM.out _ (HS.out.stay (bal (bal (bal (bal (Below.refl _ _) _) _) _) _)) (H1.out.stay (bal (bal (bal (bal (Below.refl _ _) _) _) _) _)) (H2.out.stay (bal (bal (bal (bal (Below.refl _ _) _) _) _) _))).mono ?_; rintro e w1 ⟨rfl, hb1⟩; have K1 := Lib.hid (blk_call hb1 (b4a w _ _ _ _)); have K2 := Lib.hid (blk_call hb1 (b4b w _ _ _ _)); have K3 := Lib.hid (blk_call hb1 (b4c w _ _ _ _)); have K4 := Lib.hid (blk_call hb1 (b4d w _ _ _ _)); have c3 := blk_cell K1.out (j := 3) rfl; have y1 := fun o => blk_cell (blk_alloc o K1.out) (j := 1) rfl; have sz1 := hb1.size))
  all_goals
    have hw1 := bel (bal (bal (bal (bal (Below.refl w.heap.size w) _) _) _) _) hb1
  all_goals first | (have hz : ((top + 1) % 2 == gen % 2) = true := hp; generalize hgg : top + 1 + 1 = g at *) | (generalize hgg : top + 1 = g at *)
  all_goals
    have hd1 : SlAt (w1.alloc (.cells #[.int .i64 g] 3)).drew (Value.slice a xs.length c) 1 xs.length (strs xs) := HS.out.stay (bdn (bal hw1 _) 1)
    have B1 : Hid ((w1.alloc (.cells #[.int .i64 g] 3)).drew.heap[w.heap.size]? = _) := Lib.hid (blk_alloc _ K1.out)
    have B2 : Hid ((w1.alloc (.cells #[.int .i64 g] 3)).drew.heap[w.heap.size + 1]? = _) := Lib.hid (blk_alloc _ K2.out)
    have B3 : Hid ((w1.alloc (.cells #[.int .i64 g] 3)).drew.heap[w.heap.size + 1 + 1]? = _) := Lib.hid (blk_alloc _ K3.out)
    have B4 : Hid ((w1.alloc (.cells #[.int .i64 g] 3)).drew.heap[w.heap.size + 1 + 1 + 1]? = _) := Lib.hid (blk_alloc _ K4.out)
    have Bg : Hid ((w1.alloc (.cells #[.int .i64 g] 3)).drew.heap[w1.heap.size]? = _) := Lib.hid (blk_new w1 _)
    refine start_ (n := 10) (S := fun w' => w'.cell? ⟨w.heap.size + 1, 0, none⟩ = some (Value.slice a1 l.length c1) ∧ w'.cell? ⟨w.heap.size, 0, none⟩ = some (Value.slice a xs.length c) ∧ w'.cell? ⟨w1.heap.size, 0, none⟩ = some (.int .i64 g)) (ds := []) #[false, false, false, false, false, false, false, false, false, false] (by kernel_rfl) rfl rfl ⟨blk_cell B2.out (j := 0) rfl, blk_cell B1.out (j := 0) rfl, blk_cell Bg.out (j := 0) rfl⟩ (fun hHeld => ?_)
    refine take_ (i := 0) (N := some 31) (v := ?_) (a' := ?_) #[true, false, false, false, false, false, false, false, false, false] rfl rfl (by kernel_rfl) (fun _ _ _ h => h) (Or.inl ⟨by rfl, ?_⟩) hHeld ?_ ?_
    rotate_left
    · rintro w' ⟨s0, s1, s2⟩
      go_simp
      with_reducible rfl
    rotate_left
    · simp only [Act.put, List.setIfInBounds_toArray, List.set_cons_zero, List.set_cons_succ, i64_w, i32_w]
      rfl
    refine pure_ (i := 1) (N := some 32) (v := ?_) (a' := ?_) #[true, true, false, false, false, false, false, false, false, false] rfl rfl (by kernel_rfl) (fun _ _ _ h => h) (Or.inl ⟨by rfl, ?_⟩) ?_ ?_
    rotate_left
    · intro w'
      go_simp
      with_reducible rfl
    rotate_left
    · simp only [Act.put, List.setIfInBounds_toArray, List.set_cons_zero, List.set_cons_succ, i64_w, i32_w]
      rfl
    refine pure_ (i := 2) (N := some 33) (v := ?_) (a' := ?_) #[true, true, true, false, false, false, false, false, false, false] rfl rfl (by kernel_rfl) (fun _ _ _ h => h) (Or.inl ⟨by rfl, ?_⟩) ?_ ?_
    rotate_left
    · intro w'
      go_simp
      with_reducible rfl
    rotate_left
    · simp only [Act.put, List.setIfInBounds_toArray, List.set_cons_zero, List.set_cons_succ, i64_w, i32_w]
      rfl
    refine take_ (i := 3) (N := some 34) (v := ?_) (a' := ?_) #[true, true, true, true, false, false, false, false, false, false] rfl rfl (by kernel_rfl) (fun _ _ _ h => h) (Or.inl ⟨by rfl, ?_⟩) hHeld ?_ ?_
    rotate_left
    · rintro w' ⟨s0, s1, s2⟩
      go_simp
      with_reducible rfl
    rotate_left
    · simp only [Act.put, List.setIfInBounds_toArray, List.set_cons_zero, List.set_cons_succ, i64_w, i32_w]
      rfl
    refine one_ (i := 4) (N := some 35) #[true, true, true, true, true, false, false, false, false, false] rfl rfl (by kernel_rfl) (by decide) (fun K hK => ?_)
    refine goes_ Try.func37 (by kernel_rfl) rfl #[.agg #[.slice a xs.length c]] (by rfl) rfl rfl (by (try simp only [List.map_toArray, List.map_cons, List.map_nil]); first | done | rfl) ?_
    refine (HA.out _ hd1).mono ?_
    rintro e w2 ⟨rfl, hb2⟩
    refine ⟨_, rfl, ?_⟩
    have J1 := Lib.hid (blk_call hb2 B1.out)
    have J2 := Lib.hid (blk_call hb2 B2.out)
    have J3 := Lib.hid (blk_call hb2 B3.out)
    have J4 := Lib.hid (blk_call hb2 B4.out)
    have Jg := Lib.hid (blk_call hb2 Bg.out)
    refine hK.out _ _ ⟨blk_cell J2.out (j := 0) rfl, blk_cell J1.out (j := 0) rfl, blk_cell Jg.out (j := 0) rfl⟩ (fun hHeld => ?_)
    clear hK K
    refine norm_ (a' := ?_) ?_ ?_
    rotate_left
    · show Act.put _ (some 35) _ = _
      simp only [Act.put, List.setIfInBounds_toArray, List.set_cons_zero, List.set_cons_succ, i64_w, i32_w]
      rfl
    refine pure_ (i := 5) (N := some 36) (v := ?_) (a' := ?_) #[true, true, true, true, true, true, false, false, false, false] rfl rfl (by kernel_rfl) (fun _ _ _ h => h) (Or.inl ⟨by rfl, ?_⟩) ?_ ?_
    rotate_left
    · intro w'
      go_simp
      with_reducible rfl
    rotate_left
    · simp only [Act.put, List.setIfInBounds_toArray, List.set_cons_zero, List.set_cons_succ, i64_w, i32_w]
      rfl
    refine pure_ (i := 6) (N := some 37) (v := ?_) (a' := ?_) #[true, true, true, true, true, true, true, false, false, false] rfl rfl (by kernel_rfl) (fun _ _ _ h => h) (Or.inl ⟨by rfl, ?_⟩) ?_ ?_
    rotate_left
    · intro w'
      go_simp
      with_reducible rfl
    rotate_left
    · simp only [Act.put, List.setIfInBounds_toArray, List.set_cons_zero, List.set_cons_succ, i64_w, i32_w]
      rfl
    refine take_ (i := 7) (N := some 38) (v := ?_) (a' := ?_) #[true, true, true, true, true, true, true, true, false, false] rfl rfl (by kernel_rfl) (fun _ _ _ h => h) (Or.inl ⟨by rfl, ?_⟩) hHeld ?_ ?_
    rotate_left
    · rintro w' ⟨s0, s1, s2⟩
      go_simp
      with_reducible rfl
    rotate_left
    · simp only [Act.put, List.setIfInBounds_toArray, List.set_cons_zero, List.set_cons_succ, i64_w, i32_w]
      rfl
    refine pure_ (i := 8) (N := some 39) (v := ?_) (a' := ?_) #[true, true, true, true, true, true, true, true, true, false] rfl rfl (by kernel_rfl) (fun _ _ _ h => h) (Or.inl ⟨by rfl, ?_⟩) ?_ ?_
    rotate_left
    · intro w'
      go_simp
      with_reducible rfl
    rotate_left
    · simp only [Act.put, List.setIfInBounds_toArray, List.set_cons_zero, List.set_cons_succ, i64_w, i32_w]
      rfl
    refine pure_ (i := 9) (N := some 40) (v := ?_) (a' := ?_) #[true, true, true, true, true, true, true, true, true, true] rfl rfl (by kernel_rfl) (fun _ _ _ h => h) (Or.inl ⟨by rfl, ?_⟩) ?_ ?_
    rotate_left
    · intro w'
      go_simp
      with_reducible rfl
    rotate_left
    · simp only [Act.put, List.setIfInBounds_toArray, List.set_cons_zero, List.set_cons_succ, i64_w, i32_w]
      rfl
    refine done_ (by kernel_rfl) ?_
    have x0 := blk_cell J4.out (j := 0) rfl
    have x1 := blk_cell J4.out (j := 1) rfl
    have x2 := blk_cell J4.out (j := 2) rfl
    have x3 := blk_cell J4.out (j := 3) rfl
    have x4 := blk_cell J4.out (j := 4) rfl
    have f0 := blk_free J4.out 0
    have f1 := blk_free J4.out 1
    have f2 := blk_free J4.out 2
    have f3 := blk_free J4.out 3
    have f4 := blk_free J4.out 4
    go_wp2
    have hw2 := bel (bdn (bal hw1 (.cells #[.int .i64 g] 3)) 1) hb2
    refine bodyPost_ret (v := .tuple #[Sto.zero.val (.slice none 0 0), .int .i64 5]) ?_ rfl ?_
    · simp [results, Try.results22, go_sem, Sto.val, Sto.zero, x0, x1, x2, x3, x4]
    · refine ⟨.slice none 0 0, rfl, .inr (FreshV.nil _ _ _), SlAt.nil _ _, ?_⟩
      exact bset (bset (bset (bset (bset hw2 (show w.heap.size ≤ w.heap.size + 1 + 1 + 1 by omega) _) (show w.heap.size ≤ w.heap.size + 1 + 1 + 1 by omega) _) (show w.heap.size ≤ w.heap.size + 1 + 1 + 1 by omega) _) (show w.heap.size ≤ w.heap.size + 1 + 1 + 1 by omega) _) (show w.heap.size ≤ w.heap.size + 1 + 1 + 1 by omega) _
set_option maxRecDepth 100000 in
set_option maxHeartbeats 8000000 in
theorem turn_go (xs : List ByteArray) (gen used top G : Int) (v v1 v2 : Value) (l : List ByteArray) (fs : List Flt) (w : World) (hS : SlAt w v 1 xs.length (strs xs)) (h1 : SlAt w v1 1 l.length (strs l)) (h2 : SlAt w v2 2 fs.length (fltsC fs)) (hm : mayS ⟨xs, gen, used, top, false⟩ l fs = 0)
    (g0 : 0 ≤ gen) (t0 : 0 ≤ top) (t1 : top ≤ 1000) (hG : ((top + 1) % 2 == gen % 2) = true ∧ G = top + 1 + 1 ∨ ((top + 1) % 2 == gen % 2) = false ∧ G = top + 1) (hL : ¬ areaD xs < l.length) (hG2 : ¬ 250 < G) (hx : xs.length ≤ 1000) (hx0 : 0 < xs.length) (hl : l.length ≤ 900) (g1 : G ≤ 1000) :
    Calls Try.prog 22 #[.agg (SC v gen used top false), v1, v2] w (StoRes ⟨(turnW G xs 0 l fs).1, if (turnW G xs 0 l fs).2 = 0 then G else gen, if (turnW G xs 0 l fs).2 = 0 then l.length else used, G, decide ((turnW G xs 0 l fs).2 = 9)⟩ (turnW G xs 0 l fs).2 v w) := by
  have HM := Lib.hid (fun W (h : SlAt W v 1 xs.length (strs xs)) (h1 : SlAt W v1 1 l.length (strs l)) (h2 : SlAt W v2 2 fs.length (fltsC fs)) => by have := storeMay_any ⟨xs, gen, used, top, false⟩ v v1 v2 l fs W h h1 h2; rw [hm] at this; exact this)
  have HS := Lib.hid hS
  have H1 := Lib.hid h1
  have H2 := Lib.hid h2
  have hT : ∀ G' : Int, G' = G → ∀ (gs gF gl gg gn : Nat) (W : World), TS gs gF gl gg gn v v2 v1 xs l fs gen used G' G' W → Calls Try.prog 48 #[.func (.func 52) #[] #[.pointer (some ⟨gl, 0, none⟩), .pointer (some ⟨gs, 0, none⟩), .pointer (some ⟨gg, 0, none⟩), .pointer (some ⟨gn, 0, none⟩)]] W fun e w' =>
      ∃ v', e = .returned (.int .i64 (turnW G xs 0 l fs).2) ∧ w'.heap[gs]? = some (.cells (SC v' (if (turnW G xs 0 l fs).2 = 0 then G else gen) (if (turnW G xs 0 l fs).2 = 0 then l.length else used) G (decide ((turnW G xs 0 l fs).2 = 9))) 26 (0, 0)) ∧ SlAt w' v' 1 (turnW G xs 0 l fs).1.length (strs (turnW G xs 0 l fs).1) ∧ (v' = v ∨ FreshV W.heap.size v') ∧ G2 gs gF W w' := by
    intro G' hG' gs gF gl gg gn W hTS
    subst hG'
    exact tstop_any gs gF gl gg gn v v2 v1 xs l fs gen used G' G' W hTS hx hx0 (by omega) g1 hl
  obtain ⟨R, hR⟩ : ∃ R, R = turnW G xs 0 l fs := ⟨_, rfl⟩
  rw [← hR] at hT ⊢
  obtain ⟨n1, hn1⟩ : ∃ n1, n1 = (if R.2 = 0 then G else gen) := ⟨_, rfl⟩
  obtain ⟨n2, hn2⟩ : ∃ n2, n2 = (if R.2 = 0 then (l.length : Int) else used) := ⟨_, rfl⟩
  obtain ⟨n3, hn3⟩ : ∃ n3, n3 = decide (R.2 = 9) := ⟨_, rfl⟩
  rw [← hn1, ← hn2, ← hn3] at hT ⊢
  obtain ⟨ys, k⟩ := R
  simp only at hT ⊢
  clear hR hn1 hn2 hn3
  have HT := Lib.hid hT
  clear hT
  have hmf : ∀ (fn : Fn) (first cap : Array Value) (w : World), (Instr.makeFunc fn first cap).run Try.prog w = .ok (.func fn first cap) w := fun _ _ _ _ => rfl
  obtain ⟨a, c, rfl, _, _⟩ := hS.form
  obtain ⟨a1, c1, rfl, _, _⟩ := h1.form
  obtain ⟨a2, c2, rfl, _, _⟩ := h2.form
  have HA := Lib.hid (fun W (h : SlAt W (Value.slice a xs.length c) 1 xs.length (strs xs)) => area_any _ xs W h)
  obtain ⟨A, hA⟩ : ∃ A, A = areaD xs := ⟨_, rfl⟩
  rw [← hA] at HA hL
  obtain ⟨e1, e2⟩ := small64 (top + 1) (by omega) (by omega)
  obtain ⟨e3, e4⟩ := small64 (top + 1 + 1) (by omega) (by omega)
  clear hS hm h1 h2 hA
  have hLb : decide (A < (l.length : Int)) = false := by simpa using hL
  have hGb : decide (250 < G) = false := by simpa using hG2
  clear hL hG2
  unfold Sto.val at *
  rcases hG with ⟨hp, rfl⟩ | ⟨hp, rfl⟩
  all_goals
    go_enter Try.func22, Try.ntmps22
    go_wp2_with (first
      | (go_at_call 47; refine (HM.out _ (HS.out.stay (bal (bal (bal (bal (Below.refl _ _) _) _) _) _)) (H1.out.stay (bal (bal (bal (bal (Below.refl _ _) _) _) _) _)) (H2.out.stay (bal (bal (bal (bal (Below.refl _ _) _) _) _) _))).mono ?_; rintro e w1 ⟨rfl, hb1⟩; have K1 := Lib.hid (blk_call hb1 (b4a w _ _ _ _)); have K2 := Lib.hid (blk_call hb1 (b4b w _ _ _ _)); have K3 := Lib.hid (blk_call hb1 (b4c w _ _ _ _)); have K4 := Lib.hid (blk_call hb1 (b4d w _ _ _ _)); have c3 := blk_cell K1.out (j := 3) rfl; have y1 := fun o => blk_cell (blk_alloc o K1.out) (j := 1) rfl; have sz1 := hb1.size))
  all_goals
    have hw1 := bel (bal (bal (bal (bal (Below.refl w.heap.size w) _) _) _) _) hb1
  all_goals first | (have hz : ((top + 1) % 2 == gen % 2) = true := hp; generalize hgg : top + 1 + 1 = g at *) | (generalize hgg : top + 1 = g at *)
  all_goals
    have hd1 : SlAt (w1.alloc (.cells #[.int .i64 g] 3)).drew (Value.slice a xs.length c) 1 xs.length (strs xs) := HS.out.stay (bdn (bal hw1 _) 1)
    have B1 : Hid ((w1.alloc (.cells #[.int .i64 g] 3)).drew.heap[w.heap.size]? = _) := Lib.hid (blk_alloc _ K1.out)
    have B2 : Hid ((w1.alloc (.cells #[.int .i64 g] 3)).drew.heap[w.heap.size + 1]? = _) := Lib.hid (blk_alloc _ K2.out)
    have B3 : Hid ((w1.alloc (.cells #[.int .i64 g] 3)).drew.heap[w.heap.size + 1 + 1]? = _) := Lib.hid (blk_alloc _ K3.out)
    have B4 : Hid ((w1.alloc (.cells #[.int .i64 g] 3)).drew.heap[w.heap.size + 1 + 1 + 1]? = _) := Lib.hid (blk_alloc _ K4.out)
    have Bg : Hid ((w1.alloc (.cells #[.int .i64 g] 3)).drew.heap[w1.heap.size]? = _) := Lib.hid (blk_new w1 _)
    refine start_ (n := 10) (S := fun w' => w'.cell? ⟨w.heap.size + 1, 0, none⟩ = some (Value.slice a1 l.length c1) ∧ w'.cell? ⟨w.heap.size, 0, none⟩ = some (Value.slice a xs.length c) ∧ w'.cell? ⟨w1.heap.size, 0, none⟩ = some (.int .i64 g)) (ds := []) #[false, false, false, false, false, false, false, false, false, false] (by kernel_rfl) rfl rfl ⟨blk_cell B2.out (j := 0) rfl, blk_cell B1.out (j := 0) rfl, blk_cell Bg.out (j := 0) rfl⟩ (fun hHeld => ?_)
    refine take_ (i := 0) (N := some 31) (v := ?_) (a' := ?_) #[true, false, false, false, false, false, false, false, false, false] rfl rfl (by kernel_rfl) (fun _ _ _ h => h) (Or.inl ⟨by rfl, ?_⟩) hHeld ?_ ?_
    rotate_left
    · rintro w' ⟨s0, s1, s2⟩
      go_simp
      with_reducible rfl
    rotate_left
    · simp only [Act.put, List.setIfInBounds_toArray, List.set_cons_zero, List.set_cons_succ, i64_w, i32_w]
      rfl
    refine pure_ (i := 1) (N := some 32) (v := ?_) (a' := ?_) #[true, true, false, false, false, false, false, false, false, false] rfl rfl (by kernel_rfl) (fun _ _ _ h => h) (Or.inl ⟨by rfl, ?_⟩) ?_ ?_
    rotate_left
    · intro w'
      go_simp
      with_reducible rfl
    rotate_left
    · simp only [Act.put, List.setIfInBounds_toArray, List.set_cons_zero, List.set_cons_succ, i64_w, i32_w]
      rfl
    refine pure_ (i := 2) (N := some 33) (v := ?_) (a' := ?_) #[true, true, true, false, false, false, false, false, false, false] rfl rfl (by kernel_rfl) (fun _ _ _ h => h) (Or.inl ⟨by rfl, ?_⟩) ?_ ?_
    rotate_left
    · intro w'
      go_simp
      with_reducible rfl
    rotate_left
    · simp only [Act.put, List.setIfInBounds_toArray, List.set_cons_zero, List.set_cons_succ, i64_w, i32_w]
      rfl
    refine take_ (i := 3) (N := some 34) (v := ?_) (a' := ?_) #[true, true, true, true, false, false, false, false, false, false] rfl rfl (by kernel_rfl) (fun _ _ _ h => h) (Or.inl ⟨by rfl, ?_⟩) hHeld ?_ ?_
    rotate_left
    · rintro w' ⟨s0, s1, s2⟩
      go_simp
      with_reducible rfl
    rotate_left
    · simp only [Act.put, List.setIfInBounds_toArray, List.set_cons_zero, List.set_cons_succ, i64_w, i32_w]
      rfl
    refine one_ (i := 4) (N := some 35) #[true, true, true, true, true, false, false, false, false, false] rfl rfl (by kernel_rfl) (by decide) (fun K hK => ?_)
    refine goes_ Try.func37 (by kernel_rfl) rfl #[.agg #[.slice a xs.length c]] (by rfl) rfl rfl (by (try simp only [List.map_toArray, List.map_cons, List.map_nil]); first | done | rfl) ?_
    refine (HA.out _ hd1).mono ?_
    rintro e w2 ⟨rfl, hb2⟩
    refine ⟨_, rfl, ?_⟩
    have J1 := Lib.hid (blk_call hb2 B1.out)
    have J2 := Lib.hid (blk_call hb2 B2.out)
    have J3 := Lib.hid (blk_call hb2 B3.out)
    have J4 := Lib.hid (blk_call hb2 B4.out)
    have Jg := Lib.hid (blk_call hb2 Bg.out)
    refine hK.out _ _ ⟨blk_cell J2.out (j := 0) rfl, blk_cell J1.out (j := 0) rfl, blk_cell Jg.out (j := 0) rfl⟩ (fun hHeld => ?_)
    clear hK K
    refine norm_ (a' := ?_) ?_ ?_
    rotate_left
    · show Act.put _ (some 35) _ = _
      simp only [Act.put, List.setIfInBounds_toArray, List.set_cons_zero, List.set_cons_succ, i64_w, i32_w]
      rfl
    refine pure_ (i := 5) (N := some 36) (v := ?_) (a' := ?_) #[true, true, true, true, true, true, false, false, false, false] rfl rfl (by kernel_rfl) (fun _ _ _ h => h) (Or.inl ⟨by rfl, ?_⟩) ?_ ?_
    rotate_left
    · intro w'
      go_simp
      with_reducible rfl
    rotate_left
    · simp only [Act.put, List.setIfInBounds_toArray, List.set_cons_zero, List.set_cons_succ, i64_w, i32_w]
      rfl
    refine pure_ (i := 6) (N := some 37) (v := ?_) (a' := ?_) #[true, true, true, true, true, true, true, false, false, false] rfl rfl (by kernel_rfl) (fun _ _ _ h => h) (Or.inl ⟨by rfl, ?_⟩) ?_ ?_
    rotate_left
    · intro w'
      go_simp
      with_reducible rfl
    rotate_left
    · simp only [Act.put, List.setIfInBounds_toArray, List.set_cons_zero, List.set_cons_succ, i64_w, i32_w]
      rfl
    refine take_ (i := 7) (N := some 38) (v := ?_) (a' := ?_) #[true, true, true, true, true, true, true, true, false, false] rfl rfl (by kernel_rfl) (fun _ _ _ h => h) (Or.inl ⟨by rfl, ?_⟩) hHeld ?_ ?_
    rotate_left
    · rintro w' ⟨s0, s1, s2⟩
      go_simp
      with_reducible rfl
    rotate_left
    · simp only [Act.put, List.setIfInBounds_toArray, List.set_cons_zero, List.set_cons_succ, i64_w, i32_w]
      rfl
    refine pure_ (i := 8) (N := some 39) (v := ?_) (a' := ?_) #[true, true, true, true, true, true, true, true, true, false] rfl rfl (by kernel_rfl) (fun _ _ _ h => h) (Or.inl ⟨by rfl, ?_⟩) ?_ ?_
    rotate_left
    · intro w'
      go_simp
      with_reducible rfl
    rotate_left
    · simp only [Act.put, List.setIfInBounds_toArray, List.set_cons_zero, List.set_cons_succ, i64_w, i32_w]
      rfl
    refine pure_ (i := 9) (N := some 40) (v := ?_) (a' := ?_) #[true, true, true, true, true, true, true, true, true, true] rfl rfl (by kernel_rfl) (fun _ _ _ h => h) (Or.inl ⟨by rfl, ?_⟩) ?_ ?_
    rotate_left
    · intro w'
      go_simp
      with_reducible rfl
    rotate_left
    · simp only [Act.put, List.setIfInBounds_toArray, List.set_cons_zero, List.set_cons_succ, i64_w, i32_w]
      rfl
    refine done_ (by kernel_rfl) ?_
    have k3 := blk_cell J1.out (j := 3) rfl
    have z3 := blk_free J1.out 3
    have y5 := blk_cell Jg.out (j := 0) rfl
    have hw2 := bel (bdn (bal hw1 (.cells #[.int .i64 g] 3)) 1) hb2
    have e5 : w.heap.size + 1 + 1 + 1 < w1.heap.size := blk_lt K4.out
    have e6 : w1.heap.size < w2.heap.size := blk_lt Jg.out
    have hg2 : G2 w.heap.size (w.heap.size + 1 + 1) w2 ((w2.setCell ⟨w.heap.size, 3, none⟩ (.int .i64 g)).alloc (.cells #[.func (.func 51) #[] #[.pointer (some ⟨w.heap.size + 1 + 1, 0, none⟩)]] 81)) := (G2.left (gr_set4 (World.grownBy.refl w2 (some w.heap.size)) _)).trans (G2.below (bal (Below.refl _ _) _))
    have TSH : TS w.heap.size (w.heap.size + 1 + 1) (w.heap.size + 1) w1.heap.size w2.heap.size (.slice a xs.length c) (.slice a2 fs.length c2) (.slice a1 l.length c1) xs l fs gen used g g ((w2.setCell ⟨w.heap.size, 3, none⟩ (.int .i64 g)).alloc (.cells #[.func (.func 51) #[] #[.pointer (some ⟨w.heap.size + 1 + 1, 0, none⟩)]] 81)) := by
      refine ⟨blk_alloc _ (blk_set J1.out 3 _), (HS.out.stay hw2).grown hg2 (fun h b hb => ?_) (fun h b hb => ?_), fun b hb => ?_, fun b hb => ?_, blk_alloc _ (blk_set_far J3.out ?_ _), (H2.out.stay hw2).grown hg2 (fun h b hb => ?_) (fun h b hb => ?_), fun h b hb => ?_, fun h b hb => ?_, blk_alloc _ (blk_set_far J2.out ?_ _), (H1.out.stay hw2).grown hg2 (fun h b hb => ?_) (fun h b hb => ?_), fun h b hb => ?_, fun h b hb => ?_, blk_alloc _ (blk_set_far Jg.out ?_ _), ?_, ?_, ⟨?_, ?_⟩, ⟨?_, ?_⟩, ⟨?_, ?_⟩⟩
      · exact far_ne (slat_far HS.out h hb) 0
      · exact far_ne (slat_far HS.out h hb) 2
      · exact far_ne (slat_far HS.out hx0 hb) 0
      · exact far_ne (slat_far HS.out hx0 hb) 2
      · exact add_ne w.heap.size 2 0 (by decide)
      · exact far_ne (slat_far H2.out h hb) 0
      · exact far_ne (slat_far H2.out h hb) 2
      · exact far_ne (slat_far H2.out h hb) 2
      · exact far_ne (slat_far H2.out h hb) 0
      · exact add_ne w.heap.size 1 0 (by decide)
      · exact far_ne (slat_far H1.out h hb) 0
      · exact far_ne (slat_far H1.out h hb) 2
      · exact far_ne (slat_far H1.out h hb) 0
      · exact far_ne (slat_far H1.out h hb) 2
      · show w1.heap.size ≠ w.heap.size; omega
      · have := blk_new (w2.setCell ⟨w.heap.size, 3, none⟩ (.int .i64 g)) (.cells #[.func (.func 51) #[] #[.pointer (some ⟨w.heap.size + 1 + 1, 0, none⟩)]] 81)
        rwa [size_set] at this
      · omega
      · omega
      · omega
      · omega
      · omega
      · omega
      · omega
    have hsW : ((w2.setCell ⟨w.heap.size, 3, none⟩ (.int .i64 g)).alloc (.cells #[.func (.func 51) #[] #[.pointer (some ⟨w.heap.size + 1 + 1, 0, none⟩)]] 81)).heap.size = w2.heap.size + 1 := by rw [size_alloc, size_set]
    have TSI := Lib.hid TSH
    have X := Lib.hid (show ((w2.setCell ⟨w.heap.size, 3, none⟩ (.int .i64 g)).alloc (.cells #[.func (.func 51) #[] #[.pointer (some ⟨w.heap.size + 1 + 1, 0, none⟩)]] 81)).heap[w.heap.size + 1 + 1 + 1]? = _ from blk_alloc _ (blk_set_far J4.out (show w.heap.size + 1 + 1 + 1 ≠ w.heap.size by omega) _))
    have hWB : Below w.heap.size w ((w2.setCell ⟨w.heap.size, 3, none⟩ (.int .i64 g)).alloc (.cells #[.func (.func 51) #[] #[.pointer (some ⟨w.heap.size + 1 + 1, 0, none⟩)]] 81)) := bal (bset hw2 (p := ⟨w.heap.size, 3, none⟩) (Nat.le_refl _) _) _
    clear TSH
    go_wp2_with (go_at_call 48; refine (HT.out g rfl _ _ _ _ _ _ TSI.out).mono ?_; rintro e w3 ⟨v3, rfl, hB3, hS3, hF3, hG3⟩; obtain ⟨a3, c3, rfl, _, _⟩ := hS3.form; have B3 := Lib.hid hB3; have X4 := Lib.hid ((hG3.block (w.heap.size + 1 + 1 + 1) (blk_lt X.out) (by omega) (by omega)).trans X.out); have q0 : w3.cell? ⟨w.heap.size, 0, none⟩ = some (Value.slice a3 ys.length c3) := blk_cell B3.out (j := 0) rfl; have q1 : w3.cell? ⟨w.heap.size, 1, none⟩ = some (Value.int .i64 n1) := blk_cell B3.out (j := 1) rfl; have q2 : w3.cell? ⟨w.heap.size, 2, none⟩ = some (Value.int .i64 n2) := blk_cell B3.out (j := 2) rfl; have q3 : w3.cell? ⟨w.heap.size, 3, none⟩ = some (Value.int .i64 g) := blk_cell B3.out (j := 3) rfl; have q4 : w3.cell? ⟨w.heap.size, 4, none⟩ = some (Value.bool n3) := blk_cell B3.out (j := 4) rfl; have x0 := blk_cell X4.out (j := 0) rfl; have x1 := blk_cell X4.out (j := 1) rfl; have x2 := blk_cell X4.out (j := 2) rfl; have x3 := blk_cell X4.out (j := 3) rfl; have x4 := blk_cell X4.out (j := 4) rfl; have f0 := blk_free X4.out 0; have f1 := blk_free X4.out 1; have f2 := blk_free X4.out 2; have f3 := blk_free X4.out 3; have f4 := blk_free X4.out 4; clear hB3)
    have hw3 : Below w.heap.size w w3 := ⟨hG3.os.trans hWB.os, hG3.tape.trans hWB.tape, hG3.output.trans hWB.output, Nat.le_trans hWB.size hG3.size, fun i hi => (hG3.block i (Nat.lt_of_lt_of_le hi hWB.size) (by omega) (by omega)).trans (hWB.block i hi)⟩
    have hb4 := (bset (bset (bset (bset (bset hw3 (show w.heap.size ≤ w.heap.size + 1 + 1 + 1 by omega) (.slice a3 ys.length c3) (p := ⟨w.heap.size + 1 + 1 + 1, 0, none⟩)) (show w.heap.size ≤ w.heap.size + 1 + 1 + 1 by omega) (.int .i64 n1) (p := ⟨w.heap.size + 1 + 1 + 1, 1, none⟩)) (show w.heap.size ≤ w.heap.size + 1 + 1 + 1 by omega) (.int .i64 n2) (p := ⟨w.heap.size + 1 + 1 + 1, 2, none⟩)) (show w.heap.size ≤ w.heap.size + 1 + 1 + 1 by omega) (.int .i64 g) (p := ⟨w.heap.size + 1 + 1 + 1, 3, none⟩)) (show w.heap.size ≤ w.heap.size + 1 + 1 + 1 by omega) (.bool n3) (p := ⟨w.heap.size + 1 + 1 + 1, 4, none⟩))
    refine bodyPost_ret (v := .tuple #[.agg (SC (.slice a3 ys.length c3) n1 n2 g n3), .int .i64 k]) ?_ rfl ?_
    · simp [results, Try.results22, go_sem, x0, x1, x2, x3, x4]
    · have hd : ∀ b, (Value.slice a3 ys.length c3).ownBlock = some b → b ≠ w.heap.size + 1 + 1 + 1 := fun b hb => hF3.elim (fun h => by rw [h] at hb; exact far_ne (slat_far HS.out hx0 hb) 3) (fun h => by have := h b hb; omega)
      exact ⟨.slice a3 ys.length c3, rfl, hF3.imp id (fun h => h.mono hWB.size), (((((hS3.store (p := ⟨w.heap.size + 1 + 1 + 1, 0, none⟩) hd _).store (p := ⟨w.heap.size + 1 + 1 + 1, 1, none⟩) hd _).store (p := ⟨w.heap.size + 1 + 1 + 1, 2, none⟩) hd _).store (p := ⟨w.heap.size + 1 + 1 + 1, 3, none⟩) hd _).store (p := ⟨w.heap.size + 1 + 1 + 1, 4, none⟩) hd _), hb4⟩
end Go.Proofs.Ytopaddpclipnjaa
namespace Go.Proofs.Ytopaddpclipnjaa
open Go.RowKit
theorem nextG_par (s : Sto) : ((s.top + 1) % 2 == s.gen % 2) = true ∧ nextG s = s.top + 1 + 1 ∨ ((s.top + 1) % 2 == s.gen % 2) = false ∧ nextG s = s.top + 1 := by
  unfold nextG
  by_cases h : (s.top + 1) % 2 = s.gen % 2
  · left
    rw [if_pos h]
    exact ⟨by simpa using h, by omega⟩
  · right
    rw [if_neg h]
    exact ⟨by simpa using h, rfl⟩
theorem turn_any (s : Sto) (v v1 v2 : Value) (l : List ByteArray) (fs : List Flt) (w : World) (hS : SlAt w v 1 s.xs.length (strs s.xs)) (h1 : SlAt w v1 1 l.length (strs l)) (h2 : SlAt w v2 2 fs.length (fltsC fs)) :
    Calls Try.prog 22 #[s.val v, v1, v2] w (StoRes (turnS s l fs).1 (turnS s l fs).2 v w) := by
  unfold turnS
  by_cases hm : mayS s l fs = 0
  · rw [if_pos hm]
    obtain ⟨hok, _, _, hdn⟩ := mayS_ok hm
    obtain ⟨_, g1, g2, u1, u2, t1, t2, l1, l2⟩ := okB_nums hok
    have hG := nextG_par s
    have hGb : nextG s ≤ s.top + 2 := by rcases hG with ⟨_, h⟩ | ⟨_, h⟩ <;> omega
    have ha : areaD s.xs ≤ 900 := by unfold areaD; omega
    by_cases hA : areaD s.xs < l.length
    · rw [if_pos (.inl hA)]
      exact turn_full s.xs s.gen s.used s.top (nextG s) s.down v v1 v2 l fs w hS h1 h2 hm (by omega) (by omega) (by omega) hG hA
    · by_cases hB : 250 < nextG s
      · rw [if_pos (.inr hB)]
        exact turn_full2 s.xs s.gen s.used s.top (nextG s) s.down v v1 v2 l fs w hS h1 h2 hm (by omega) (by omega) (by omega) hG hA hB
      · rw [if_neg (by simp only [not_or]; exact ⟨hA, hB⟩)]
        obtain ⟨xs, gen, used, top, down⟩ := s
        simp only at hdn
        subst hdn
        exact turn_go xs gen used top (nextG ⟨xs, gen, used, top, false⟩) v v1 v2 l fs w hS h1 h2 hm (by simp only at *; omega) (by simp only at *; omega) (by simp only at *; omega) hG hA hB (by simp only at *; omega) (by simp only at *; omega) (by simp only at *; omega) (by omega)
  · rw [if_neg hm]
    exact turn_bad s v v1 v2 l fs _ w hS h1 h2 rfl hm
end Go.Proofs.Ytopaddpclipnjaa
namespace Go.Proofs.YtopaddpclipnjaaQ.P
open Go.RowKit Go.Proofs.YtopaddpclipnjaaW.PrintWords Go.Proofs.Ytopaddpclipnjaa
def stoOut (r : Sto × Int) : Option (List ByteArray × Int × Int × Int × Bool × Int) := some (r.1.xs, r.1.gen, r.1.used, r.1.top, r.1.down, r.2)
theorem sto_res {w : World} {A0_0 : Option Addr} {c0_0 : Nat} {l0_0 : List ByteArray} {P0_0_ : Nat → Prop} {s : Sto} {k : Int} {e : Ending} {w' : World} (hs0_0 : Kd.V Kd.string 9 w w.heap.size (fun k_ => P0_0_ k_) (.slice A0_0 l0_0.length c0_0) l0_0) (hl : (s.val (.slice A0_0 l0_0.length c0_0)) = s.val (.slice A0_0 l0_0.length c0_0)) {r1 : List ByteArray} {r2 r3 r4 : Int} {r5 : Bool} {r6 : Int} (h : stoOut (s, k) = some (r1, r2, r3, r4, r5, r6))
    (hsame : ∀ v', v' = .slice A0_0 l0_0.length c0_0 → SlAt w' v' 1 s.xs.length (strs s.xs) → s.xs = l0_0) (hr : StoRes s k (.slice A0_0 l0_0.length c0_0) w e w') :
    ∃ v0_ : Value, e = .returned (.tuple #[.agg #[v0_, .int .i64 r2, .int .i64 r3, .int .i64 r4, .bool r5], .int .i64 r6]) ∧ Kd.V Kd.string 9 w' w.heap.size (fun k_ => (P0_0_ k_ ∨ w.heap.size ≤ k_)) v0_ r1 ∧ Below w.heap.size w w' := by
  unfold stoOut at h
  simp only [Option.some.injEq, Prod.mk.injEq] at h
  obtain ⟨rfl, rfl, rfl, rfl, rfl, rfl⟩ := h
  obtain ⟨v', rfl, hv, hs, hb⟩ := hr
  refine ⟨v', rfl, ?_, hb⟩
  rcases hv with rfl | hv
  · rw [hsame _ rfl hs]
    exact Kd.V_mono (Kd.V_below hs0_0 hb) (fun _ h => .inl h)
  · exact Kd.V_mono (v_of_fresh hs hv) (fun _ h => .inr h)
theorem slat_v {w : World} {A0_0 : Option Addr} {c0_0 : Nat} {l0_0 : List ByteArray} {P0_0_ : Nat → Prop} (hs0_0 : Kd.V Kd.string 9 w w.heap.size (fun k_ => P0_0_ k_) (.slice A0_0 l0_0.length c0_0) l0_0) : SlAt w (.slice A0_0 l0_0.length c0_0) 1 l0_0.length (strs l0_0) := by
  obtain ⟨_, h2, h3⟩ := Kd.V_reads' hs0_0
  exact strs_c h3 h2
theorem slat_same {W : World} {A : Option Addr} {n c : Nat} {xs ys : List ByteArray} (h : SlAt W (.slice A n c) 1 xs.length (strs xs)) (k : SlAt W (.slice A n c) 1 ys.length (strs ys)) : xs = ys := by
  obtain ⟨_, _, _, e1, _, _⟩ := id h
  obtain ⟨_, _, _, e2, _, _⟩ := id k
  injection e1 with _ e1 _
  injection e2 with _ e2 _
  have hl : xs.length = ys.length := e1.symm.trans e2
  rcases Nat.eq_zero_or_pos xs.length with hz | hz
  · exact (List.eq_nil_of_length_eq_zero hz).trans (List.eq_nil_of_length_eq_zero (hl ▸ hz)).symm
  · subst e1
    obtain ⟨b, o, rfl, _, h1⟩ := h.at hz
    rw [hl] at k
    obtain ⟨b', o', e, _, h2⟩ := k.at (by omega)
    injection e with e
    injection e with e3 e4
    subst e3 e4
    apply List.ext_getElem hl
    intro i hi hi'
    have a1 := h1 i _ (strs_get _ _ hi)
    have a2 := h2 i _ (strs_get _ _ hi')
    rw [a1] at a2
    simpa using a2
def store_Append.f (l0_0 : List ByteArray) (a0_1 : Int) (a0_2 : Int) (a0_3 : Int) (a0_4 : Bool) (a1 : ByteArray) (a2_0 : Int) (a2_1 : Int) : Option (List ByteArray × Int × Int × Int × Bool × Int) := stoOut (appendS ⟨l0_0, a0_1, a0_2, a0_3, a0_4⟩ a1 ⟨a2_0, a2_1⟩)
theorem store_Append.calls (P0_0_ : Nat → Prop) (A0_0 : Option Addr) (c0_0 : Nat) (l0_0 : List ByteArray) (a0_1 : Int) (a0_2 : Int) (a0_3 : Int) (a0_4 : Bool) (a1 : ByteArray) (a2_0 : Int) (a2_1 : Int) (r1 : List ByteArray) (r2 : Int) (r3 : Int) (r4 : Int) (r5 : Bool) (r6 : Int) (w : World) (hs0_0 : Kd.V Kd.string 9 w w.heap.size (fun k_ => P0_0_ k_) (.slice A0_0 l0_0.length c0_0) l0_0) (h : store_Append.f l0_0 a0_1 a0_2 a0_3 a0_4 a1 a2_0 a2_1 = some (r1, r2, r3, r4, r5, r6)) :
    Calls Try.prog 21 #[.agg #[.slice A0_0 l0_0.length c0_0, .int .i64 a0_1, .int .i64 a0_2, .int .i64 a0_3, .bool a0_4], .string a1, .agg #[.int .i64 a2_0, .int .i64 a2_1]] w fun e w' => ∃ v0_ : Value, e = .returned (.tuple #[.agg #[v0_, .int .i64 r2, .int .i64 r3, .int .i64 r4, .bool r5], .int .i64 r6]) ∧ Kd.V Kd.string 9 w' w.heap.size (fun k_ => (P0_0_ k_ ∨ w.heap.size ≤ k_)) v0_ r1 ∧ Below w.heap.size w w' := by
  have hS := slat_v hs0_0
  unfold store_Append.f at h
  refine (append_any ⟨l0_0, a0_1, a0_2, a0_3, a0_4⟩ _ a1 ⟨a2_0, a2_1⟩ w hS).mono fun e w' hr => sto_res hs0_0 rfl h (fun v' hv hs => ?_) hr
  subst hv
  obtain ⟨_, _, _, _, hb⟩ := hr
  exact slat_same hs (hS.stay hb)
theorem flts_c {w : World} {A : Option Addr} {c : Nat} {xs : List (S45)} (h : Kd.C k45 w A xs.length xs) (hc : xs.length ≤ c) : SlAt w (.slice A xs.length c) 2 (xs.map fun x => (⟨x.f0, x.f1⟩ : Flt)).length (fltsC (xs.map fun x => (⟨x.f0, x.f1⟩ : Flt))) := by
  have := slat_of_C (d := k45) (f := fun x => (⟨x.f0, x.f1⟩ : Flt)) (en := fltC) (fun h => k45_open h) (fun _ => rfl) (by decide) h hc
  rw [List.length_map]
  exact this
def store_Turn.f (l0_0 : List ByteArray) (a0_1 : Int) (a0_2 : Int) (a0_3 : Int) (a0_4 : Bool) (l1 : List ByteArray) (l2 : List (S45)) : Option (List ByteArray × Int × Int × Int × Bool × Int) := stoOut (turnS ⟨l0_0, a0_1, a0_2, a0_3, a0_4⟩ l1 (l2.map fun x => ⟨x.f0, x.f1⟩))
theorem store_Turn.calls (P0_0_ : Nat → Prop) (A0_0 : Option Addr) (c0_0 : Nat) (l0_0 : List ByteArray) (a0_1 : Int) (a0_2 : Int) (a0_3 : Int) (a0_4 : Bool) (A1 : Option Addr) (c1 : Nat) (l1 : List ByteArray) (A2 : Option Addr) (c2 : Nat) (l2 : List (S45)) (r1 : List ByteArray) (r2 : Int) (r3 : Int) (r4 : Int) (r5 : Bool) (r6 : Int) (w : World) (hs0_0 : Kd.V Kd.string 9 w w.heap.size (fun k_ => P0_0_ k_) (.slice A0_0 l0_0.length c0_0) l0_0) (hr1 : Kd.C Kd.string w A1 l1.length l1) (hc1 : l1.length ≤ c1) (hr2 : Kd.C k45 w A2 l2.length l2) (hc2 : l2.length ≤ c2) (h : store_Turn.f l0_0 a0_1 a0_2 a0_3 a0_4 l1 l2 = some (r1, r2, r3, r4, r5, r6)) :
    Calls Try.prog 22 #[.agg #[.slice A0_0 l0_0.length c0_0, .int .i64 a0_1, .int .i64 a0_2, .int .i64 a0_3, .bool a0_4], .slice A1 l1.length c1, .slice A2 l2.length c2] w fun e w' => ∃ v0_ : Value, e = .returned (.tuple #[.agg #[v0_, .int .i64 r2, .int .i64 r3, .int .i64 r4, .bool r5], .int .i64 r6]) ∧ Kd.V Kd.string 9 w' w.heap.size (fun k_ => (P0_0_ k_ ∨ w.heap.size ≤ k_)) v0_ r1 ∧ Below w.heap.size w w' := by
  have hS := slat_v hs0_0
  unfold store_Turn.f at h
  refine (turn_any ⟨l0_0, a0_1, a0_2, a0_3, a0_4⟩ _ _ _ l1 _ w hS (strs_c hr1 hc1) (flts_c hr2 hc2)).mono fun e w' hr => sto_res hs0_0 rfl h (fun v' hv hs => ?_) hr
  subst hv
  obtain ⟨_, _, _, _, hb⟩ := hr
  exact slat_same hs (hS.stay hb)
end Go.Proofs.YtopaddpclipnjaaQ.P
namespace Go.Proofs.YtopaddpclipnjaaQ.P
open Go.RowKit Go.Proofs.YtopaddpclipnjaaW.PrintWords Go.Proofs.YtopaddpclipnjaaW.PrintLast Go.Proofs.YtopaddpclipnjaaW.PrintMore
attribute [local go_sem] max2_int min2_int max_two min_two max_three min_three max_four min_four
def foghornlaw04_alive.f (k : Nat)  : Option (Bool) := (store_New.f k 10).bind fun bt165 => ((store_Append.f bt165.1 bt165.2.1 bt165.2.2.1 bt165.2.2.2.1 bt165.2.2.2.2.1 (⟨#[97]⟩ : ByteArray) 0 0).bind fun bt174 => ((store_Append.f bt174.1 bt174.2.1 bt174.2.2.1 bt174.2.2.2.1 bt174.2.2.2.2.1 (⟨#[98]⟩ : ByteArray) 2 60).bind fun bt182 => ((store_Boot.f k bt182.1).bind fun bt191 => (if bt165.2.2.2.2.2 = 0 then (if bt174.2.2.2.2.2 = 0 then (if bt182.2.2.2.2.2 = 9 then (if bt191.2.2.2.2.2.2 = 0 then (if (bt191.2.2.2.2.2.1.length : Int) = 1 then (if 0 < (bt191.2.2.2.2.2.1.length : Int) then (some ((rdOf ByteArray.empty bt191.2.2.2.2.2.1 0).toList == ([97] : List UInt8))) else (none)) else (some false)) else (some false)) else (some false)) else (some false)) else (some false)))))
theorem foghornlaw04_alive.mono : ∀ k, LeO (foghornlaw04_alive.f k ) (foghornlaw04_alive.f (k + 1) ) := by
 intro  k
 unfold foghornlaw04_alive.f
 repeat' first
   | (with_reducible exact store_Boot.mono _ _)
   | (with_reducible exact store_New.mono _ _)
   | (with_reducible exact LeO.refl _)
   | (with_reducible exact LeO.none _)
   | (with_reducible refine LeO.ite ?_ ?_)
   | (with_reducible refine LeO.bind ?_ (fun _ => ?_))
   | exact store_Boot.mono _ _
   | exact store_New.mono _ _
   | exact LeO.none _
   | refine LeO.ite ?_ ?_
   | refine LeO.bind ?_ (fun _ => ?_)
set_option maxHeartbeats 8000000 in
set_option maxRecDepth 100000 in
theorem foghornlaw04_alive.callsT (k : Nat)  (r : Bool) (w : World) (h : foghornlaw04_alive.f k  = some r) (hrt_ : r = true) :
  Calls Try.prog 15 #[] w fun e w' => e = .returned (.bool r) ∧ Below w.heap.size w w' := by
 have hu26 := Try.underlying26
 have hu45 := Try.underlying45
 have hu24 := Try.underlying24
 have HB := aA (Below.refl w.heap.size w)
 have H : ((store_New.f k 10).bind fun bt165 => ((store_Append.f bt165.1 bt165.2.1 bt165.2.2.1 bt165.2.2.2.1 bt165.2.2.2.2.1 (⟨#[97]⟩ : ByteArray) 0 0).bind fun bt174 => ((store_Append.f bt174.1 bt174.2.1 bt174.2.2.1 bt174.2.2.2.1 bt174.2.2.2.2.1 (⟨#[98]⟩ : ByteArray) 2 60).bind fun bt182 => ((store_Boot.f k bt182.1).bind fun bt191 => (if bt165.2.2.2.2.2 = 0 then (if bt174.2.2.2.2.2 = 0 then (if bt182.2.2.2.2.2 = 9 then (if bt191.2.2.2.2.2.2 = 0 then (if (bt191.2.2.2.2.2.1.length : Int) = 1 then (if 0 < (bt191.2.2.2.2.2.1.length : Int) then (some ((rdOf ByteArray.empty bt191.2.2.2.2.2.1 0).toList == ([97] : List UInt8))) else (none)) else (some false)) else (some false)) else (some false)) else (some false)) else (some false)))))) = some r := h
 clear h
 replace H := Option.bind_eq_some_iff.mp H
 obtain ⟨⟨t165, t168, t169, t170, t171, t172⟩, A10, H⟩ := H
 have A1 := aA A10
 clear A10
 replace H := Option.bind_eq_some_iff.mp H
 obtain ⟨⟨t174, t177, t178, t179, t180, t181⟩, A20, H⟩ := H
 have A2 := aA A20
 clear A20
 replace H := Option.bind_eq_some_iff.mp H
 obtain ⟨⟨t182, t185, t186, t187, t188, t189⟩, A30, H⟩ := H
 have A3 := aA A30
 clear A30
 replace H := Option.bind_eq_some_iff.mp H
 obtain ⟨⟨t191, t194, t195, t196, t197, t198, t201⟩, A40, H⟩ := H
 have A4 := aA A40
 clear A40
 by_cases c5 : t172 = 0
 ·rw [if_pos c5] at H
  have c5b0 : (t172 == 0) = true := beq_iff_eq.mpr c5
  have c5b1 : (t172 != 0) = false := bne_eq_false_iff_eq.mpr c5
  clear c5
  by_cases c6 : t181 = 0
  ·rw [if_pos c6] at H
   have c6b0 : (t181 == 0) = true := beq_iff_eq.mpr c6
   have c6b1 : (t181 != 0) = false := bne_eq_false_iff_eq.mpr c6
   clear c6
   by_cases c7 : t189 = 9
   ·rw [if_pos c7] at H
    have c7b0 : (t189 == 9) = true := beq_iff_eq.mpr c7
    have c7b1 : (t189 != 9) = false := bne_eq_false_iff_eq.mpr c7
    clear c7
    by_cases c8 : t201 = 0
    ·rw [if_pos c8] at H
     have c8b0 : (t201 == 0) = true := beq_iff_eq.mpr c8
     have c8b1 : (t201 != 0) = false := bne_eq_false_iff_eq.mpr c8
     clear c8
     by_cases c9 : (t198.length : Int) = 1
     ·rw [if_pos c9] at H
      have c9b0 : ((t198.length : Int) == 1) = true := beq_iff_eq.mpr c9
      have c9b1 : ((t198.length : Int) != 1) = false := bne_eq_false_iff_eq.mpr c9
      clear c9
      by_cases c10 : 0 < (t198.length : Int)
      ·rw [if_pos c10] at H
       have c10b0 : decide (0 < (t198.length : Int)) = true := decide_eq_true c10
       have c10b1 : decide (0 < t198.length) = true := decide_eq_true (by omega)
       clear c10
       obtain rfl := Option.some.inj H
       go_enter Try.func15, Try.ntmps15
       go_wp2_with (first | ((with_reducible refine gate_callee (f := 11) rfl ?_); refine goesL_ (some 10) rfl rfl Try.func11 (by kernel_rfl) rfl #[.int .i64 10] rfl mS ?_; (with_reducible refine (store_New.calls k 10 t165 t168 t169 t170 t171 t172 _ A1.out).mono ?_); rintro e w11 ⟨v166, rfl, ho0, hb⟩; refine ⟨_, rfl, ?_⟩; have n0_ := aA (Kd.V_lower (Kd.V_mono (ok' := fun k_ => True) ho0 (fun k_ hk_ => trivial)) (below_size mB)); have n1_ := aA (below_step mB hb); clear HB; have HO167 := n0_; have HB := n1_; clear n0_ n1_; (try clear hb); (try clear hb2); (try clear hk); (try clear hi); (try clear ho0)) | ((with_reducible refine gate_dst (N := 1) rfl ?_); (try (refine gate_guard (by rfl) ?_; dsimp only)); refine box_event ?hg (N := 1) ?hd (cs := #[.slice none 0 0, .int .i64 0, .int .i64 0, .int .i64 0, .bool false]) (t := 26) ?hr ?_; (case hd => rfl); (case hg => rfl); (case hr => first | (go_simp; done) | (go_simp; rfl)); intro gb173 hg w12 hbox hb; have n0_ := aA (Kd.V_below (Kd.V_elderB (by (with_reducible repeat (first | apply Kd.V_alloc | apply Kd.V_drewN | apply Kd.V_drew)); exact HO167.out) gb173 (Nat.le_of_eq hg.symm)) hb); have n1_ := aA (below_step mB hb); have n2_ := aA (hbox); have n3_ := aA ((bZ hg mB)); have n4_ := aA ((bZ hg mB)); clear HO167 HB; have HO167 := n0_; have HB := n1_; have BK173 := n2_; have GW173 := n3_; have GE173 := n4_; clear n0_ n1_ n2_ n3_ n4_ hb hbox hg; obtain ⟨Ao13, co13, eo13⟩ := Kd.V_slice HO167.out; subst eo13; obtain ⟨hcz14_0, hcz14_1, hcz14_2, hcz14_3, hcz14_4⟩ := bC5 BK173.out; obtain ⟨hfz14_0, hfz14_1, hfz14_2, hfz14_3, hfz14_4⟩ := bF5 BK173.out) | ((with_reducible refine gate_store (t := 26) (p := 1) rfl ?_); refine store_event (t := 26) (p := 1) (v := ?vo_w15) (w1 := (((((w12.setCell ⟨gb173, 0, none⟩ (.slice Ao13 t165.length co13)).setCell ⟨gb173, 1, none⟩ (.int .i64 t168)).setCell ⟨gb173, 2, none⟩ (.int .i64 t169)).setCell ⟨gb173, 3, none⟩ (.int .i64 t170)).setCell ⟨gb173, 4, none⟩ (.bool t171))) ?hg ?ho ?hn ?hr ?_; (case ho => rfl); (case hg => rfl); (case hn => rfl); (case hr => first | (go_simp; done) | (go_simp; rfl)); intro w15 hw; have n0_ : Aside0 (Kd.V Kd.string 9 w15 w.heap.size (fun k_ => k_ ≠ gb173) (.slice Ao13 t165.length co13) t165) := ⟨(by rw [hw]; exact (by (with_reducible repeat (first | apply Kd.V_alloc | apply Kd.V_drewN | apply Kd.V_drew)); exact Kd.V_mono (Kd.V_far (p := ⟨gb173, 4, none⟩) (Kd.V_far (p := ⟨gb173, 3, none⟩) (Kd.V_far (p := ⟨gb173, 2, none⟩) (Kd.V_far (p := ⟨gb173, 1, none⟩) (Kd.V_far (p := ⟨gb173, 0, none⟩) (Kd.V_mono HO167.out (fun k_ hk => (⟨hk, hk.2⟩ : _ ∧ k_ ≠ gb173))) (fun _ hk => hk.2) (.slice Ao13 t165.length co13)) (fun _ hk => hk.2) (.int .i64 t168)) (fun _ hk => hk.2) (.int .i64 t169)) (fun _ hk => hk.2) (.int .i64 t170)) (fun _ hk => hk.2) (.bool t171)) (fun _ hk => hk.1.2)))⟩; have n1_ : Aside0 (w15.heap[gb173]? = some (.cells #[.slice Ao13 t165.length co13, .int .i64 t168, .int .i64 t169, .int .i64 t170, .bool t171] 26 (0, 0))) := ⟨(by rw [hw]; exact (by (with_reducible repeat (first | refine blk_drewN ?_ _ | refine blk_drew ?_ | refine blk_alloc ?_ _)); have h_ := BK173.out; exact pK 4 (pK 3 (pK 2 (pK 1 (pK 0 (h_)))))))⟩; have n2_ : Aside0 (Below w.heap.size w w15) := ⟨(by rw [hw]; exact (mD1 GE173.out))⟩; clear hw HO167 BK173 HB; have HO167 := n0_; have BK173 := n1_; have HB := n2_; clear n0_ n1_ n2_; obtain ⟨hcz16_0, hcz16_1, hcz16_2, hcz16_3, hcz16_4⟩ := bC5 BK173.out; obtain ⟨hfz16_0, hfz16_1, hfz16_2, hfz16_3, hfz16_4⟩ := bF5 BK173.out) | ((with_reducible refine gate_callee (f := 21) rfl ?_); refine goesL_ (some 16) rfl rfl Try.func21 (by kernel_rfl) rfl #[.agg #[.slice Ao13 t165.length co13, .int .i64 t168, .int .i64 t169, .int .i64 t170, .bool t171], .string (⟨#[97]⟩ : ByteArray), .agg #[.int .i64 0, .int .i64 0]] rfl mS ?_; (with_reducible refine (store_Append.calls (fun k_ => k_ ≠ gb173) _ _ t165 t168 t169 t170 t171 (⟨#[97]⟩ : ByteArray) 0 0 t174 t177 t178 t179 t180 t181 _ ?side1 A2.out).mono ?_); (case side1 => exact HO167.out); rintro e w17 ⟨v175, rfl, ho0, hb⟩; refine ⟨_, rfl, ?_⟩; have n0_ := aA (Kd.V_below (by (with_reducible repeat (first | apply Kd.V_alloc | apply Kd.V_drewN | apply Kd.V_drew)); exact HO167.out) hb); have n1_ := aA (Kd.V_lower (Kd.V_mono (ok' := fun k_ => k_ ≠ gb173) ho0 (fun k_ hk_ => Or.elim hk_ (fun hs_ => hs_) (fun hn_ => (Kd.freshB (g := gb173) (o := .cells #[.slice Ao13 t165.length co13, .int .i64 t168, .int .i64 t169, .int .i64 t170, .bool t171] 26 (0, 0)) (mK BK173.out) k_ hn_)))) (below_size (mD1 GE173.out))); have n2_ := aA (bB BK173.out hb); have n3_ := aA (below_step (mD1 GE173.out) hb); clear HO167 BK173 HB; have HO167 := n0_; have HO176 := n1_; have BK173 := n2_; have HB := n3_; clear n0_ n1_ n2_ n3_; (try clear hb); (try clear hb2); (try clear hk); (try clear hi); (try clear ho0); obtain ⟨Ao18, co18, eo18⟩ := Kd.V_slice HO176.out; subst eo18; obtain ⟨hcz19_0, hcz19_1, hcz19_2, hcz19_3, hcz19_4⟩ := bC5 BK173.out; obtain ⟨hfz19_0, hfz19_1, hfz19_2, hfz19_3, hfz19_4⟩ := bF5 BK173.out) | ((with_reducible refine gate_store (t := 26) (p := 1) rfl ?_); refine store_event (t := 26) (p := 1) (v := ?vo_w20) (w1 := (((((w17.setCell ⟨gb173, 0, none⟩ (.slice Ao18 t174.length co18)).setCell ⟨gb173, 1, none⟩ (.int .i64 t177)).setCell ⟨gb173, 2, none⟩ (.int .i64 t178)).setCell ⟨gb173, 3, none⟩ (.int .i64 t179)).setCell ⟨gb173, 4, none⟩ (.bool t180))) ?hg ?ho ?hn ?hr ?_; (case ho => rfl); (case hg => rfl); (case hn => rfl); (case hr => first | (go_simp; done) | (go_simp; rfl)); intro w20 hw; have n0_ : Aside0 (Kd.V Kd.string 9 w20 w.heap.size (fun k_ => k_ ≠ gb173) (.slice Ao13 t165.length co13) t165) := ⟨(by rw [hw]; exact (by (with_reducible repeat (first | apply Kd.V_alloc | apply Kd.V_drewN | apply Kd.V_drew)); exact Kd.V_mono (Kd.V_far (p := ⟨gb173, 4, none⟩) (Kd.V_far (p := ⟨gb173, 3, none⟩) (Kd.V_far (p := ⟨gb173, 2, none⟩) (Kd.V_far (p := ⟨gb173, 1, none⟩) (Kd.V_far (p := ⟨gb173, 0, none⟩) (Kd.V_mono HO167.out (fun k_ hk => (⟨hk, hk⟩ : _ ∧ k_ ≠ gb173))) (fun _ hk => hk.2) (.slice Ao18 t174.length co18)) (fun _ hk => hk.2) (.int .i64 t177)) (fun _ hk => hk.2) (.int .i64 t178)) (fun _ hk => hk.2) (.int .i64 t179)) (fun _ hk => hk.2) (.bool t180)) (fun _ hk => hk.1)))⟩; have n1_ : Aside0 (Kd.V Kd.string 9 w20 w.heap.size (fun k_ => k_ ≠ gb173) (.slice Ao18 t174.length co18) t174) := ⟨(by rw [hw]; exact (by (with_reducible repeat (first | apply Kd.V_alloc | apply Kd.V_drewN | apply Kd.V_drew)); exact Kd.V_mono (Kd.V_far (p := ⟨gb173, 4, none⟩) (Kd.V_far (p := ⟨gb173, 3, none⟩) (Kd.V_far (p := ⟨gb173, 2, none⟩) (Kd.V_far (p := ⟨gb173, 1, none⟩) (Kd.V_far (p := ⟨gb173, 0, none⟩) (Kd.V_mono HO176.out (fun k_ hk => (⟨hk, hk⟩ : _ ∧ k_ ≠ gb173))) (fun _ hk => hk.2) (.slice Ao18 t174.length co18)) (fun _ hk => hk.2) (.int .i64 t177)) (fun _ hk => hk.2) (.int .i64 t178)) (fun _ hk => hk.2) (.int .i64 t179)) (fun _ hk => hk.2) (.bool t180)) (fun _ hk => hk.1)))⟩; have n2_ : Aside0 (w20.heap[gb173]? = some (.cells #[.slice Ao18 t174.length co18, .int .i64 t177, .int .i64 t178, .int .i64 t179, .bool t180] 26 (0, 0))) := ⟨(by rw [hw]; exact (by (with_reducible repeat (first | refine blk_drewN ?_ _ | refine blk_drew ?_ | refine blk_alloc ?_ _)); have h_ := BK173.out; exact pK 4 (pK 3 (pK 2 (pK 1 (pK 0 (h_)))))))⟩; have n3_ : Aside0 (Below w.heap.size w w20) := ⟨(by rw [hw]; exact (mD1 GE173.out))⟩; clear hw HO167 HO176 BK173 HB; have HO167 := n0_; have HO176 := n1_; have BK173 := n2_; have HB := n3_; clear n0_ n1_ n2_ n3_; obtain ⟨hcz21_0, hcz21_1, hcz21_2, hcz21_3, hcz21_4⟩ := bC5 BK173.out; obtain ⟨hfz21_0, hfz21_1, hfz21_2, hfz21_3, hfz21_4⟩ := bF5 BK173.out) | ((with_reducible refine gate_callee (f := 21) rfl ?_); refine goesL_ (some 22) rfl rfl Try.func21 (by kernel_rfl) rfl #[.agg #[.slice Ao18 t174.length co18, .int .i64 t177, .int .i64 t178, .int .i64 t179, .bool t180], .string (⟨#[98]⟩ : ByteArray), .agg #[.int .i64 2, .int .i64 60]] rfl mS ?_; (with_reducible refine (store_Append.calls (fun k_ => k_ ≠ gb173) _ _ t174 t177 t178 t179 t180 (⟨#[98]⟩ : ByteArray) 2 60 t182 t185 t186 t187 t188 t189 _ ?side1 A3.out).mono ?_); (case side1 => exact HO176.out); rintro e w22 ⟨v183, rfl, ho0, hb⟩; refine ⟨_, rfl, ?_⟩; have n0_ := aA (Kd.V_below (by (with_reducible repeat (first | apply Kd.V_alloc | apply Kd.V_drewN | apply Kd.V_drew)); exact HO167.out) hb); have n1_ := aA (Kd.V_below (by (with_reducible repeat (first | apply Kd.V_alloc | apply Kd.V_drewN | apply Kd.V_drew)); exact HO176.out) hb); have n2_ := aA (Kd.V_lower (Kd.V_mono (ok' := fun k_ => k_ ≠ gb173) ho0 (fun k_ hk_ => Or.elim hk_ (fun hs_ => hs_) (fun hn_ => (Kd.freshB (g := gb173) (o := .cells #[.slice Ao18 t174.length co18, .int .i64 t177, .int .i64 t178, .int .i64 t179, .bool t180] 26 (0, 0)) (mK BK173.out) k_ hn_)))) (below_size (mD1 GE173.out))); have n3_ := aA (bB BK173.out hb); have n4_ := aA (below_step (mD1 GE173.out) hb); clear HO167 HO176 BK173 HB; have HO167 := n0_; have HO176 := n1_; have HO184 := n2_; have BK173 := n3_; have HB := n4_; clear n0_ n1_ n2_ n3_ n4_; (try clear hb); (try clear hb2); (try clear hk); (try clear hi); (try clear ho0)) | ((with_reducible refine gate_dst (N := 4) rfl ?_); (try (refine gate_guard (by rfl) ?_; dsimp only)); refine box_event ?hg (N := 4) ?hd (cs := #[.slice none 0 0, .int .i64 0, .int .i64 0, .int .i64 0, .bool false]) (t := 26) ?hr ?_; (case hd => rfl); (case hg => rfl); (case hr => first | (go_simp; done) | (go_simp; rfl)); intro gb190 hg w23 hbox hb; have n0_ := aA (Kd.V_below (Kd.V_elderB (by (with_reducible repeat (first | apply Kd.V_alloc | apply Kd.V_drewN | apply Kd.V_drew)); exact HO167.out) gb190 (Nat.le_of_eq hg.symm)) hb); have n1_ := aA (Kd.V_below (Kd.V_elderB (by (with_reducible repeat (first | apply Kd.V_alloc | apply Kd.V_drewN | apply Kd.V_drew)); exact HO176.out) gb190 (Nat.le_of_eq hg.symm)) hb); have n2_ := aA (Kd.V_below (Kd.V_elderB (by (with_reducible repeat (first | apply Kd.V_alloc | apply Kd.V_drewN | apply Kd.V_drew)); exact HO184.out) gb190 (Nat.le_of_eq hg.symm)) hb); have n3_ := aA (bB BK173.out hb); have n4_ := aA (below_step (mD1 GE173.out) hb); have n5_ := aA (hbox); have n6_ := aA ((bZ hg (mD1 GE173.out))); have n7_ := aA ((bZ hg (mD1 GE173.out))); have n8_ := aA ((bL hg BK173.out)); have n9_ := aA ((bG hg BK173.out)); clear HO167 HO176 HO184 BK173 HB; have HO167 := n0_; have HO176 := n1_; have HO184 := n2_; have BK173 := n3_; have HB := n4_; have BK190 := n5_; have GW190 := n6_; have GE190 := n7_; have NB173_190 := n8_; have NB190_173 := n9_; clear n0_ n1_ n2_ n3_ n4_ n5_ n6_ n7_ n8_ n9_ hb hbox hg; obtain ⟨Ao24, co24, eo24⟩ := Kd.V_slice HO184.out; subst eo24; have hnb25 := NB190_173.out; have hnc25 := NB173_190.out; obtain ⟨hcz26_0, hcz26_1, hcz26_2, hcz26_3, hcz26_4⟩ := bC5 BK190.out; obtain ⟨hfz26_0, hfz26_1, hfz26_2, hfz26_3, hfz26_4⟩ := bF5 BK190.out) | ((with_reducible refine gate_store (t := 26) (p := 4) rfl ?_); refine store_event (t := 26) (p := 4) (v := ?vo_w27) (w1 := (((((w23.setCell ⟨gb190, 0, none⟩ (.slice Ao24 t182.length co24)).setCell ⟨gb190, 1, none⟩ (.int .i64 t185)).setCell ⟨gb190, 2, none⟩ (.int .i64 t186)).setCell ⟨gb190, 3, none⟩ (.int .i64 t187)).setCell ⟨gb190, 4, none⟩ (.bool t188))) ?hg ?ho ?hn ?hr ?_; (case ho => rfl); (case hg => rfl); (case hn => rfl); (case hr => first | (go_simp; done) | (go_simp; rfl)); intro w27 hw; have n0_ : Aside0 (Kd.V Kd.string 9 w27 w.heap.size (fun k_ => k_ ≠ gb173 ∧ k_ ≠ gb190) (.slice Ao13 t165.length co13) t165) := ⟨(by rw [hw]; exact (by (with_reducible repeat (first | apply Kd.V_alloc | apply Kd.V_drewN | apply Kd.V_drew)); exact Kd.V_mono (Kd.V_far (p := ⟨gb190, 4, none⟩) (Kd.V_far (p := ⟨gb190, 3, none⟩) (Kd.V_far (p := ⟨gb190, 2, none⟩) (Kd.V_far (p := ⟨gb190, 1, none⟩) (Kd.V_far (p := ⟨gb190, 0, none⟩) (Kd.V_mono HO167.out (fun k_ hk => (⟨hk, hk.2⟩ : _ ∧ k_ ≠ gb190))) (fun _ hk => hk.2) (.slice Ao24 t182.length co24)) (fun _ hk => hk.2) (.int .i64 t185)) (fun _ hk => hk.2) (.int .i64 t186)) (fun _ hk => hk.2) (.int .i64 t187)) (fun _ hk => hk.2) (.bool t188)) (fun _ hk => ⟨hk.1.1, hk.1.2⟩)))⟩; have n1_ : Aside0 (Kd.V Kd.string 9 w27 w.heap.size (fun k_ => k_ ≠ gb173 ∧ k_ ≠ gb190) (.slice Ao18 t174.length co18) t174) := ⟨(by rw [hw]; exact (by (with_reducible repeat (first | apply Kd.V_alloc | apply Kd.V_drewN | apply Kd.V_drew)); exact Kd.V_mono (Kd.V_far (p := ⟨gb190, 4, none⟩) (Kd.V_far (p := ⟨gb190, 3, none⟩) (Kd.V_far (p := ⟨gb190, 2, none⟩) (Kd.V_far (p := ⟨gb190, 1, none⟩) (Kd.V_far (p := ⟨gb190, 0, none⟩) (Kd.V_mono HO176.out (fun k_ hk => (⟨hk, hk.2⟩ : _ ∧ k_ ≠ gb190))) (fun _ hk => hk.2) (.slice Ao24 t182.length co24)) (fun _ hk => hk.2) (.int .i64 t185)) (fun _ hk => hk.2) (.int .i64 t186)) (fun _ hk => hk.2) (.int .i64 t187)) (fun _ hk => hk.2) (.bool t188)) (fun _ hk => ⟨hk.1.1, hk.1.2⟩)))⟩; have n2_ : Aside0 (Kd.V Kd.string 9 w27 w.heap.size (fun k_ => k_ ≠ gb173 ∧ k_ ≠ gb190) (.slice Ao24 t182.length co24) t182) := ⟨(by rw [hw]; exact (by (with_reducible repeat (first | apply Kd.V_alloc | apply Kd.V_drewN | apply Kd.V_drew)); exact Kd.V_mono (Kd.V_far (p := ⟨gb190, 4, none⟩) (Kd.V_far (p := ⟨gb190, 3, none⟩) (Kd.V_far (p := ⟨gb190, 2, none⟩) (Kd.V_far (p := ⟨gb190, 1, none⟩) (Kd.V_far (p := ⟨gb190, 0, none⟩) (Kd.V_mono HO184.out (fun k_ hk => (⟨hk, hk.2⟩ : _ ∧ k_ ≠ gb190))) (fun _ hk => hk.2) (.slice Ao24 t182.length co24)) (fun _ hk => hk.2) (.int .i64 t185)) (fun _ hk => hk.2) (.int .i64 t186)) (fun _ hk => hk.2) (.int .i64 t187)) (fun _ hk => hk.2) (.bool t188)) (fun _ hk => ⟨hk.1.1, hk.1.2⟩)))⟩; have n3_ : Aside0 (w27.heap[gb173]? = some (.cells #[.slice Ao18 t174.length co18, .int .i64 t177, .int .i64 t178, .int .i64 t179, .bool t180] 26 (0, 0))) := ⟨(by rw [hw]; exact (by (with_reducible repeat (first | refine blk_drewN ?_ _ | refine blk_drew ?_ | refine blk_alloc ?_ _)); refine blk_far ?_ NB173_190.out _; (with_reducible repeat (first | refine blk_drewN ?_ _ | refine blk_drew ?_ | refine blk_alloc ?_ _)); refine blk_far ?_ NB173_190.out _; (with_reducible repeat (first | refine blk_drewN ?_ _ | refine blk_drew ?_ | refine blk_alloc ?_ _)); refine blk_far ?_ NB173_190.out _; (with_reducible repeat (first | refine blk_drewN ?_ _ | refine blk_drew ?_ | refine blk_alloc ?_ _)); refine blk_far ?_ NB173_190.out _; (with_reducible repeat (first | refine blk_drewN ?_ _ | refine blk_drew ?_ | refine blk_alloc ?_ _)); refine blk_far ?_ NB173_190.out _; (with_reducible repeat (first | refine blk_drewN ?_ _ | refine blk_drew ?_ | refine blk_alloc ?_ _)); exact BK173.out))⟩; have n4_ : Aside0 (w27.heap[gb190]? = some (.cells #[.slice Ao24 t182.length co24, .int .i64 t185, .int .i64 t186, .int .i64 t187, .bool t188] 26 (0, 0))) := ⟨(by rw [hw]; exact (by (with_reducible repeat (first | refine blk_drewN ?_ _ | refine blk_drew ?_ | refine blk_alloc ?_ _)); have h_ := BK190.out; exact pK 4 (pK 3 (pK 2 (pK 1 (pK 0 (h_)))))))⟩; have n5_ : Aside0 (Below w.heap.size w w27) := ⟨(by rw [hw]; exact (mD2 GE173.out GE190.out))⟩; clear hw HO167 HO176 HO184 BK173 BK190 HB; have HO167 := n0_; have HO176 := n1_; have HO184 := n2_; have BK173 := n3_; have BK190 := n4_; have HB := n5_; clear n0_ n1_ n2_ n3_ n4_ n5_; obtain ⟨hcz28_0, hcz28_1, hcz28_2, hcz28_3, hcz28_4⟩ := bC5 BK190.out; obtain ⟨hfz28_0, hfz28_1, hfz28_2, hfz28_3, hfz28_4⟩ := bF5 BK190.out) | ((with_reducible refine gate_callee (f := 12) rfl ?_); refine goesL_ (some 28) rfl rfl Try.func12 (by kernel_rfl) rfl #[.agg #[.slice Ao24 t182.length co24]] rfl mS ?_; (with_reducible refine (store_Boot.calls k (fun k_ => (k_ ≠ gb173 ∧ k_ ≠ gb190)) _ _ t182 t191 t194 t195 t196 t197 t198 t201 _ ?side1 A4.out).mono ?_); (case side1 => exact HO184.out); rintro e w29 ⟨v192, v199, rfl, ho0, ho1, hb⟩; refine ⟨_, rfl, ?_⟩; have n0_ := aA (Kd.V_elder' (by (with_reducible repeat (first | apply Kd.V_alloc | apply Kd.V_drewN | apply Kd.V_drew)); exact HO167.out) (Kd.R_base ho1) hb); have n1_ := aA (Kd.V_elder' (by (with_reducible repeat (first | apply Kd.V_alloc | apply Kd.V_drewN | apply Kd.V_drew)); exact HO176.out) (Kd.R_base ho1) hb); have n2_ := aA (Kd.V_elder' (by (with_reducible repeat (first | apply Kd.V_alloc | apply Kd.V_drewN | apply Kd.V_drew)); exact HO184.out) (Kd.R_base ho1) hb); have n3_ := aA (Kd.V_lower (Kd.V_mono (ok' := fun k_ => some k_ ≠ (v199 : Value).ownBlock ∧ k_ ≠ gb173 ∧ k_ ≠ gb190) ho0 (fun k_ hk_ => ⟨hk_.2, Or.elim hk_.1 (fun hs_ => hs_.1) (fun hn_ => (Kd.freshB (g := gb173) (o := .cells #[.slice Ao18 t174.length co18, .int .i64 t177, .int .i64 t178, .int .i64 t179, .bool t180] 26 (0, 0)) (mK BK173.out) k_ hn_)), Or.elim hk_.1 (fun hs_ => hs_.2) (fun hn_ => (Kd.freshB (g := gb190) (o := .cells #[.slice Ao24 t182.length co24, .int .i64 t185, .int .i64 t186, .int .i64 t187, .bool t188] 26 (0, 0)) (mK BK190.out) k_ hn_))⟩)) (below_size (mD2 GE173.out GE190.out))); have n4_ := aA (Kd.R_lower (Kd.R_mono (ok' := fun k_ => True) ho1 (fun _ hk_ => trivial)) (below_size (mD2 GE173.out GE190.out))); have n5_ := aA (bB BK173.out hb); have n6_ := aA (bB BK190.out hb); have n7_ := aA (below_step (mD2 GE173.out GE190.out) hb); clear HO167 HO176 HO184 BK173 BK190 HB; have HO167 := n0_; have HO176 := n1_; have HO184 := n2_; have HO193 := n3_; have HO200 := n4_; have BK173 := n5_; have BK190 := n6_; have HB := n7_; clear n0_ n1_ n2_ n3_ n4_ n5_ n6_ n7_; (try clear hb); (try clear hb2); (try clear hk); (try clear hi); (try clear ho0); (try clear ho1)) | ((with_reducible refine gate_dst (N := 6) rfl ?_); (try (refine gate_guard (by rfl) ?_; dsimp only)); refine box_event ?hg (N := 6) ?hd (cs := #[.slice none 0 0, .int .i64 0, .int .i64 0, .int .i64 0, .bool false]) (t := 26) ?hr ?_; (case hd => rfl); (case hg => rfl); (case hr => first | (go_simp; done) | (go_simp; rfl)); intro gb202 hg w30 hbox hb; have n0_ := aA (Kd.V_below (Kd.V_elderB (by (with_reducible repeat (first | apply Kd.V_alloc | apply Kd.V_drewN | apply Kd.V_drew)); exact HO167.out) gb202 (Nat.le_of_eq hg.symm)) hb); have n1_ := aA (Kd.V_below (Kd.V_elderB (by (with_reducible repeat (first | apply Kd.V_alloc | apply Kd.V_drewN | apply Kd.V_drew)); exact HO176.out) gb202 (Nat.le_of_eq hg.symm)) hb); have n2_ := aA (Kd.V_below (Kd.V_elderB (by (with_reducible repeat (first | apply Kd.V_alloc | apply Kd.V_drewN | apply Kd.V_drew)); exact HO184.out) gb202 (Nat.le_of_eq hg.symm)) hb); have n3_ := aA (Kd.V_below (Kd.V_elderB (by (with_reducible repeat (first | apply Kd.V_alloc | apply Kd.V_drewN | apply Kd.V_drew)); exact HO193.out) gb202 (Nat.le_of_eq hg.symm)) hb); have n4_ := aA (Kd.R_below (mR HO200.out) hb); have n5_ := aA (bB BK173.out hb); have n6_ := aA (bB BK190.out hb); have n7_ := aA (below_step (mD2 GE173.out GE190.out) hb); have n8_ := aA (hbox); have n9_ := aA ((bZ hg (mD2 GE173.out GE190.out))); have n10_ := aA ((bZ hg (mD2 GE173.out GE190.out))); have n11_ := aA ((bL hg BK173.out)); have n12_ := aA ((bG hg BK173.out)); have n13_ := aA ((bL hg BK190.out)); have n14_ := aA ((bG hg BK190.out)); clear HO167 HO176 HO184 HO193 HO200 BK173 BK190 HB; have HO167 := n0_; have HO176 := n1_; have HO184 := n2_; have HO193 := n3_; have HO200 := n4_; have BK173 := n5_; have BK190 := n6_; have HB := n7_; have BK202 := n8_; have GW202 := n9_; have GE202 := n10_; have NB173_202 := n11_; have NB202_173 := n12_; have NB190_202 := n13_; have NB202_190 := n14_; clear n0_ n1_ n2_ n3_ n4_ n5_ n6_ n7_ n8_ n9_ n10_ n11_ n12_ n13_ n14_ hb hbox hg; obtain ⟨Ao31, co31, eo31⟩ := Kd.V_slice HO193.out; subst eo31; have hnb32 := NB202_173.out; have hnc32 := NB173_202.out; have hnb33 := NB202_190.out; have hnc33 := NB190_202.out; obtain ⟨hcz34_0, hcz34_1, hcz34_2, hcz34_3, hcz34_4⟩ := bC5 BK202.out; obtain ⟨hfz34_0, hfz34_1, hfz34_2, hfz34_3, hfz34_4⟩ := bF5 BK202.out; obtain ⟨Ao35, co35, eo35⟩ := Kd.R_slice HO200.out; subst eo35; have p203 : 0 ≤ (0 : Int) := (by omega); have q203 : 0 < (t198.length : Int) := of_decide_eq_true (by first | (with_reducible assumption) | assumption); obtain ⟨ad203, e203, hx203_0⟩ := Kd.at_string (Kd.R_reads' HO200.out).2.2 0 p203 q203; cases e203; have qi203 : (0 < t198.length) = True := eq_true (by omega); (try rw [show ((0 : Int)).toNat = 0 from rfl] at hx203_0); (try rw [Addr.add_zero'] at hx203_0); have hn203_0 : ad203.block ≠ gb202 := Kd.own_blk (Kd.R_ne HO200.out BK202.out (by decide)); have hn203_1 : ad203.block ≠ gb202 := Kd.own_blk (Kd.R_ne HO200.out BK202.out (by decide)); have hn203_2 : ad203.block ≠ gb202 := Kd.own_blk (Kd.R_ne HO200.out BK202.out (by decide)); have hn203_3 : ad203.block ≠ gb202 := Kd.own_blk (Kd.R_ne HO200.out BK202.out (by decide)); have hn203_4 : ad203.block ≠ gb202 := Kd.own_blk (Kd.R_ne HO200.out BK202.out (by decide)); replace hx203_0 := (cell_far (p := ⟨gb202, 0, none⟩) (by first | (rw [add_block]; exact hn203_0) | (show (Addr.add _ _).block ≠ _; rw [add_block]; exact hn203_0) | exact hn203_0) (.slice Ao31 t191.length co31)).trans hx203_0; replace hx203_0 := (cell_far (p := ⟨gb202, 1, none⟩) (by first | (rw [add_block]; exact hn203_1) | (show (Addr.add _ _).block ≠ _; rw [add_block]; exact hn203_1) | exact hn203_1) (.int .i64 t194)).trans hx203_0; replace hx203_0 := (cell_far (p := ⟨gb202, 2, none⟩) (by first | (rw [add_block]; exact hn203_2) | (show (Addr.add _ _).block ≠ _; rw [add_block]; exact hn203_2) | exact hn203_2) (.int .i64 t195)).trans hx203_0; replace hx203_0 := (cell_far (p := ⟨gb202, 3, none⟩) (by first | (rw [add_block]; exact hn203_3) | (show (Addr.add _ _).block ≠ _; rw [add_block]; exact hn203_3) | exact hn203_3) (.int .i64 t196)).trans hx203_0; replace hx203_0 := (cell_far (p := ⟨gb202, 4, none⟩) (by first | (rw [add_block]; exact hn203_4) | (show (Addr.add _ _).block ≠ _; rw [add_block]; exact hn203_4) | exact hn203_4) (.bool t197)).trans hx203_0; clear hn203_0 hn203_1 hn203_2 hn203_3 hn203_4; replace p203 := eq_true p203; replace q203 := eq_true q203))
       go_ret
       exact ⟨by first | rfl | (simp [errW_none, errW_some] <;> rfl) | (simp [*, errW_none, errW_some] <;> rfl), by repeat (first | (with_reducible first | exact HB.out | apply below_alloc | apply pw_below_drewN | apply below_drew1 | refine below_set ?_ GE173.out | refine below_set ?_ GE190.out | refine below_set ?_ GE202.out) | exact HB.out)⟩
      ·rw [if_neg c10] at H
       exact absurd H (by simp)
     ·rw [if_neg c9] at H
      have c9b0 : ((t198.length : Int) == 1) = false := beq_eq_false_iff_ne.mpr c9
      have c9b1 : ((t198.length : Int) != 1) = true := bne_iff_ne.mpr c9
      exact absurd (Option.some.inj H) (by rw [hrt_]; decide)
    ·rw [if_neg c8] at H
     have c8b0 : (t201 == 0) = false := beq_eq_false_iff_ne.mpr c8
     have c8b1 : (t201 != 0) = true := bne_iff_ne.mpr c8
     exact absurd (Option.some.inj H) (by rw [hrt_]; decide)
   ·rw [if_neg c7] at H
    have c7b0 : (t189 == 9) = false := beq_eq_false_iff_ne.mpr c7
    have c7b1 : (t189 != 9) = true := bne_iff_ne.mpr c7
    exact absurd (Option.some.inj H) (by rw [hrt_]; decide)
  ·rw [if_neg c6] at H
   have c6b0 : (t181 == 0) = false := beq_eq_false_iff_ne.mpr c6
   have c6b1 : (t181 != 0) = true := bne_iff_ne.mpr c6
   exact absurd (Option.some.inj H) (by rw [hrt_]; decide)
 ·rw [if_neg c5] at H
  have c5b0 : (t172 == 0) = false := beq_eq_false_iff_ne.mpr c5
  have c5b1 : (t172 != 0) = true := bne_iff_ne.mpr c5
  exact absurd (Option.some.inj H) (by rw [hrt_]; decide)
end Go.Proofs.YtopaddpclipnjaaQ.P
