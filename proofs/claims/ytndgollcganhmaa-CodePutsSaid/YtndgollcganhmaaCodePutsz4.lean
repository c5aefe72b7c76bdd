/- The statement 'CodePuts': for every input the law returns true, and each argument reads behind the call as it read before. No condition. -/
import Derived.Deep.RegionHeld3
import Derived.WideShapes
import Derived.Test.YtndgollcganhmaaRows
import Derived.WalkKit
import Derived.ProofKit
import Derived.OpenShut
import Derived.ShutString
import Derived.Below
import Derived.Carry
import Derived.Test.YtndgollcganhmaaCodePutsz1
import Derived.Test.YtndgollcganhmaaCodePutsz2
import Derived.Test.YtndgollcganhmaaCodePutsz3
set_option linter.unusedVariables false
set_option linter.unusedSimpArgs false
namespace Go.Proofs.YtndgollcganhmaaQ.P
open Go.RowKit Go.Proofs.YtndgollcganhmaaW.PrintWords Go.Proofs.YtndgollcganhmaaW.PrintLast Go.Proofs.YtndgollcganhmaaW.PrintMore
attribute [local go_sem] max2_int min2_int max_two min_two max_three min_three max_four min_four
def foghornref17_Put.l0 : Nat → ByteArray → List (S35) → Int → Int → Option (ByteArray)
 | 0, _, _, _, _ => none
 | k + 1, x4, x64, x65, x66 => if x66 < x65 then (if 0 ≤ x66 then (if x66 < (x64.length : Int) then ((foghornref17_one.f ((rd_T35 x64 x66).f0)).bind fun t319 => (if x4.size + t319.size ≤ 9223372036854775807 then ((foghornref17_text.f ((rd_T35 x64 x66).f1)).bind fun t320 => (if (x4 ++ t319).size + t320.size ≤ 9223372036854775807 then ((foghornref17_text.f ((rd_T35 x64 x66).f2)).bind fun t321 => (if ((x4 ++ t319) ++ t320).size + t321.size ≤ 9223372036854775807 then (foghornref17_Put.l0 k (((x4 ++ t319) ++ t320) ++ t321) x64 x65 (wrap64 (x66 + 1))) else (none))) else (none))) else (none))) else (none)) else (none)) else (some x4)
def foghornref17_Put.f (k : Nat) (a0_0 : Int) (l0_1 : List (S41)) (a0_2 : Int) (a0_3 : Int) (a0_4 : Int) (a0_5 : Int) (a0_6 : Int) (l0_7 : List (S41)) (a0_8 : Int) (a0_9 : Int) (l0_10 : List (S35)) : Option (ByteArray) := if a0_0 = 2 then ((foghornref17_one.f 2).bind fun t303 => ((foghornref17_labels.f k l0_7).bind fun t304 => (if t303.size + t304.size ≤ 9223372036854775807 then (some (t303 ++ t304)) else (none)))) else (if a0_0 = 1 then ((foghornref17_one.f 1).bind fun t306 => ((foghornref17_one.f a0_2).bind fun t307 => (if t306.size + t307.size ≤ 9223372036854775807 then ((foghornref17_one.f a0_3).bind fun t308 => (if (t306 ++ t307).size + t308.size ≤ 9223372036854775807 then ((foghornref17_one.f a0_4).bind fun t309 => (if ((t306 ++ t307) ++ t308).size + t309.size ≤ 9223372036854775807 then ((foghornref17_one.f a0_6).bind fun t310 => (if (((t306 ++ t307) ++ t308) ++ t309).size + t310.size ≤ 9223372036854775807 then ((foghornref17_six.f k a0_5).bind fun t311 => (if ((((t306 ++ t307) ++ t308) ++ t309) ++ t310).size + t311.size ≤ 9223372036854775807 then ((foghornref17_labels.f k l0_1).bind fun t312 => (if (((((t306 ++ t307) ++ t308) ++ t309) ++ t310) ++ t311).size + t312.size ≤ 9223372036854775807 then (some ((((((t306 ++ t307) ++ t308) ++ t309) ++ t310) ++ t311) ++ t312)) else (none))) else (none))) else (none))) else (none))) else (none))) else (none)))) else ((foghornref17_one.f 3).bind fun t313 => ((foghornref17_six.f k a0_8).bind fun t314 => (if t313.size + t314.size ≤ 9223372036854775807 then ((foghornref17_six.f k a0_9).bind fun t315 => (if (t313 ++ t314).size + t315.size ≤ 9223372036854775807 then ((foghornref17_one.f (l0_10.length : Int)).bind fun t316 => (if ((t313 ++ t314) ++ t315).size + t316.size ≤ 9223372036854775807 then (foghornref17_Put.l0 k (((t313 ++ t314) ++ t315) ++ t316) l0_10 (l0_10.length : Int) 0) else (none))) else (none))) else (none)))))
def foghornref17_Put.T5 : Bool × List (List Nat × List Nat) := (true, [([], []), ([], []), ([1], [1]), ([2, 0], [2]), ([0, 3], [0, 3]), ([], []), ([5], [5]), ([6, 3], [6]), ([4, 7], [4, 7]), ([], []), ([9], [9]), ([10, 7], [10]), ([8, 11], [8, 11]), ([], []), ([13], [13]), ([14, 11], [14]), ([12, 15], [12, 15]), ([], []), ([17], [17]), ([18, 15], [18]), ([16, 19], [16, 19]), ([], []), ([21], [21]), ([22, 19], [22]), ([20, 23], [20, 23]), ([24, 23, 0, 1, 2, 3, 4, 5, 6, 7, 8, 9, 10, 11, 12, 13, 14, 15, 16, 17, 18, 19, 20, 21, 22, 23, 24], [24])])
def foghornref17_Put.B5 : List Nat := [0, 0, 2, 7, 15, 0, 32, 111, 255, 0, 512, 1775, 4095, 0, 8192, 28399, 65535, 0, 131072, 454383, 1048575, 0, 2097152, 7270127, 16777215, 33554431]
theorem foghornref17_Put.tab5 : rtab .any (opsOf Try.f29 5) = foghornref17_Put.T5 := by kernel_rfl
theorem foghornref17_Put.bits5 : waitsOk foghornref17_Put.T5.2 foghornref17_Put.B5 = true := by kernel_rfl
def foghornref17_Put.T6 : Bool × List (List Nat × List Nat) := (true, [([], []), ([], []), ([1], [1]), ([2], [2]), ([3, 0], [3]), ([0, 4], [0, 4]), ([], []), ([6], [6]), ([7], [7]), ([8, 4], [8]), ([5, 9], [5, 9]), ([], []), ([11], [11]), ([12], [12]), ([13], [13]), ([14, 9], [14]), ([10, 15], [10, 15]), ([16, 15, 0, 1, 2, 3, 4, 5, 6, 7, 8, 9, 10, 11, 12, 13, 14, 15, 16], [16])])
def foghornref17_Put.B6 : List Nat := [0, 0, 2, 6, 15, 31, 0, 64, 192, 479, 1023, 0, 2048, 6144, 14336, 31711, 65535, 131071]
theorem foghornref17_Put.tab6 : rtab .any (opsOf Try.f29 6) = foghornref17_Put.T6 := by kernel_rfl
theorem foghornref17_Put.bits6 : waitsOk foghornref17_Put.T6.2 foghornref17_Put.B6 = true := by kernel_rfl
def foghornref17_Put.T10 : Bool × List (List Nat × List Nat) := (true, [([], []), ([], []), ([1], [1]), ([2], [2]), ([0, 3], [0, 3]), ([], []), ([5], [5]), ([6, 3], [6]), ([4, 7], [4, 7]), ([], []), ([9], [9]), ([10, 7], [10]), ([8, 11], [8, 11]), ([12, 11, 0, 1, 2, 3, 4, 5, 6, 7, 8, 9, 10, 11, 12], [0, 12])])
def foghornref17_Put.B10 : List Nat := [0, 0, 2, 6, 15, 0, 32, 110, 255, 0, 512, 1774, 4095, 8191]
theorem foghornref17_Put.tab10 : rtab .any (opsOf Try.f29 10) = foghornref17_Put.T10 := by kernel_rfl
theorem foghornref17_Put.bits10 : waitsOk foghornref17_Put.T10.2 foghornref17_Put.B10 = true := by kernel_rfl
set_option maxHeartbeats 8000000 in
set_option maxRecDepth 100000 in
theorem foghornref17_Put.calls (k : Nat) (a0_0 : Int) (A0_1 : Option Addr) (c0_1 : Nat) (l0_1 : List (S41)) (a0_2 : Int) (a0_3 : Int) (a0_4 : Int) (a0_5 : Int) (a0_6 : Int) (A0_7 : Option Addr) (c0_7 : Nat) (l0_7 : List (S41)) (a0_8 : Int) (a0_9 : Int) (A0_10 : Option Addr) (c0_10 : Nat) (l0_10 : List (S35)) (r : ByteArray) (w : World) (hr0_1 : Kd.C k41 w A0_1 l0_1.length l0_1) (hc0_1 : l0_1.length ≤ c0_1) (hr0_7 : Kd.C k41 w A0_7 l0_7.length l0_7) (hc0_7 : l0_7.length ≤ c0_7) (hr0_10 : Kd.C k35 w A0_10 l0_10.length l0_10) (hc0_10 : l0_10.length ≤ c0_10) (h : foghornref17_Put.f k a0_0 l0_1 a0_2 a0_3 a0_4 a0_5 a0_6 l0_7 a0_8 a0_9 l0_10 = some r) :
  Calls Try.prog 29 #[.agg #[.int .i64 a0_0, .slice A0_1 l0_1.length c0_1, .int .i64 a0_2, .int .i64 a0_3, .int .i64 a0_4, .int .i64 a0_5, .int .i64 a0_6, .slice A0_7 l0_7.length c0_7, .int .i64 a0_8, .int .i64 a0_9, .slice A0_10 l0_10.length c0_10]] w fun e w' => e = .returned (.string r) ∧ Below w.heap.size w w' := by
 have hu50 := Try.underlying50
 have hu46 := Try.underlying46
 have hu35 := Try.underlying35
 have HR0_1 := aA hr0_1
 have HC0_1 := aA hc0_1
 clear hr0_1 hc0_1
 have HR0_7 := aA hr0_7
 have HC0_7 := aA hc0_7
 clear hr0_7 hc0_7
 have HR0_10 := aA hr0_10
 have HC0_10 := aA hc0_10
 clear hr0_10 hc0_10
 have HB := aA (Below.refl w.heap.size w)
 have H : (if a0_0 = 2 then ((foghornref17_one.f 2).bind fun t303 => ((foghornref17_labels.f k l0_7).bind fun t304 => (if t303.size + t304.size ≤ 9223372036854775807 then (some (t303 ++ t304)) else (none)))) else (if a0_0 = 1 then ((foghornref17_one.f 1).bind fun t306 => ((foghornref17_one.f a0_2).bind fun t307 => (if t306.size + t307.size ≤ 9223372036854775807 then ((foghornref17_one.f a0_3).bind fun t308 => (if (t306 ++ t307).size + t308.size ≤ 9223372036854775807 then ((foghornref17_one.f a0_4).bind fun t309 => (if ((t306 ++ t307) ++ t308).size + t309.size ≤ 9223372036854775807 then ((foghornref17_one.f a0_6).bind fun t310 => (if (((t306 ++ t307) ++ t308) ++ t309).size + t310.size ≤ 9223372036854775807 then ((foghornref17_six.f k a0_5).bind fun t311 => (if ((((t306 ++ t307) ++ t308) ++ t309) ++ t310).size + t311.size ≤ 9223372036854775807 then ((foghornref17_labels.f k l0_1).bind fun t312 => (if (((((t306 ++ t307) ++ t308) ++ t309) ++ t310) ++ t311).size + t312.size ≤ 9223372036854775807 then (some ((((((t306 ++ t307) ++ t308) ++ t309) ++ t310) ++ t311) ++ t312)) else (none))) else (none))) else (none))) else (none))) else (none))) else (none)))) else ((foghornref17_one.f 3).bind fun t313 => ((foghornref17_six.f k a0_8).bind fun t314 => (if t313.size + t314.size ≤ 9223372036854775807 then ((foghornref17_six.f k a0_9).bind fun t315 => (if (t313 ++ t314).size + t315.size ≤ 9223372036854775807 then ((foghornref17_one.f (l0_10.length : Int)).bind fun t316 => (if ((t313 ++ t314) ++ t315).size + t316.size ≤ 9223372036854775807 then (foghornref17_Put.l0 k (((t313 ++ t314) ++ t315) ++ t316) l0_10 (l0_10.length : Int) 0) else (none))) else (none))) else (none)))))) = some r := h
 clear h
 by_cases c2 : a0_0 = 2
 ·rw [if_pos c2] at H
  have c2b0 : (a0_0 == 2) = true := beq_iff_eq.mpr c2
  have c2b1 : (a0_0 != 2) = false := bne_eq_false_iff_eq.mpr c2
  clear c2
  replace H := Option.bind_eq_some_iff.mp H
  obtain ⟨t303, A30, H⟩ := H
  have A3 := aA A30
  clear A30
  replace H := Option.bind_eq_some_iff.mp H
  obtain ⟨t304, A40, H⟩ := H
  have A4 := aA A40
  clear A40
  by_cases c5 : t303.size + t304.size ≤ 9223372036854775807
  ·rw [if_pos c5] at H
   have c5b0 := eq_true c5
   have c5b1 := decide_eq_true c5
   try have c5b2 : (9223372036854775807 < t303.size + t304.size) = False := eq_false (Nat.not_lt.2 c5)
   obtain rfl := Option.some.inj H
   go_enter Try.func29, Try.ntmps29
   try go_wp2_with (first | ((with_reducible refine gate_dst (N := 1) rfl ?_); refine box_event ?hg (N := 1) ?hd (cs := #[.int .i64 a0_0, .slice A0_1 l0_1.length c0_1, .int .i64 a0_2, .int .i64 a0_3, .int .i64 a0_4, .int .i64 a0_5, .int .i64 a0_6, .slice A0_7 l0_7.length c0_7, .int .i64 a0_8, .int .i64 a0_9, .slice A0_10 l0_10.length c0_10]) (t := 50) ?hr ?_; (case hd => rfl); (case hg => rfl); (case hr => first | (go_simp; done) | (go_simp; rfl)); intro gb302 hg w6 hbox hb; have n0_ := aA (below_step mB hb); have n1_ := aA (hbox); have n2_ := aA ((bZ hg mB)); have n3_ := aA ((bZ hg mB)); clear HB; have HB := n0_; have BK302 := n1_; have GW302 := n2_; have GE302 := n3_; clear n0_ n1_ n2_ n3_ hb hbox hg; obtain ⟨hcz7_0, hcz7_1, hcz7_2, hcz7_3, hcz7_4, hcz7_5, hcz7_6, hcz7_7, hcz7_8, hcz7_9, hcz7_10⟩ := bC11 BK302.out; obtain ⟨hfz7_0, hfz7_1, hfz7_2, hfz7_3, hfz7_4, hfz7_5, hfz7_6, hfz7_7, hfz7_8, hfz7_9, hfz7_10⟩ := bF11 BK302.out))
   have n0_ := aA (blk_drew BK302.out)
   have n1_ := aA (below_drew1 HB.out)
   clear BK302
   clear HB
   have BK302 := n0_
   have HB := n1_
   clear n0_ n1_
   refine start_ (n := 6) (S := fun w' => w'.cell? ⟨gb302, 0, none⟩ = some (.int .i64 a0_0) ∧ w'.cell? ⟨gb302, 1, none⟩ = some (.slice A0_1 l0_1.length c0_1) ∧ w'.cell? ⟨gb302, 2, none⟩ = some (.int .i64 a0_2) ∧ w'.cell? ⟨gb302, 3, none⟩ = some (.int .i64 a0_3) ∧ w'.cell? ⟨gb302, 4, none⟩ = some (.int .i64 a0_4) ∧ w'.cell? ⟨gb302, 5, none⟩ = some (.int .i64 a0_5) ∧ w'.cell? ⟨gb302, 6, none⟩ = some (.int .i64 a0_6) ∧ w'.cell? ⟨gb302, 7, none⟩ = some (.slice A0_7 l0_7.length c0_7) ∧ w'.cell? ⟨gb302, 8, none⟩ = some (.int .i64 a0_8) ∧ w'.cell? ⟨gb302, 9, none⟩ = some (.int .i64 a0_9) ∧ w'.cell? ⟨gb302, 10, none⟩ = some (.slice A0_10 l0_10.length c0_10)) (ds := []) #[false, false, false, false, false, false] (by kernel_rfl) rfl rfl (bC11 BK302.out) (fun hHeld => ?_)
   generalize w6.drew = w8 at BK302 HB hHeld ⊢
   refine pure_ (i := 1) (N := some 11) (v := ?_) (a' := ?_) #[false, true, false, false, false, false] rfl rfl (by kernel_rfl) (fun _ _ _ h => h) (Or.inl ⟨by rfl, ?_⟩) ?_ ?_
   rotate_left
   ·intro w'
    go_simp
    with_reducible rfl
   rotate_left
   ·exact mP
   refine take_ (i := 2) (N := some 12) (v := ?_) (a' := ?_) #[false, true, true, false, false, false] rfl rfl (by kernel_rfl) (fun _ _ _ h => h) (Or.inl ⟨by rfl, ?_⟩) hHeld ?_ ?_
   rotate_left
   ·rintro w' ⟨s0, s1, s2, s3, s4, s5, s6, s7, s8, s9, s10⟩
    go_simp
    with_reducible rfl
   rotate_left
   ·exact mP
   refine one_ (i := 0) (N := some 10) #[true, true, true, false, false, false] rfl rfl (by kernel_rfl) (by decide) (fun K hK => ?_)
   refine goes_ Try.func57 (by kernel_rfl) rfl #[.int .i64 2] (by rfl) rfl rfl mS ?_
   with_reducible refine (foghornref17_one.calls 2 t303 _ A3.out).mono ?_
   rintro e w9 ⟨rfl, hb⟩
   refine ⟨_, rfl, ?_⟩
   have n0_ := aA (bB BK302.out hb)
   have n1_ := aA (below_step (mD1 GE302.out) hb)
   clear BK302
   clear HB
   have BK302 := n0_
   have HB := n1_
   clear n0_ n1_
   (try clear hb)
   (try clear hb2)
   (try clear hk)
   (try clear hi)
   refine hK.out _ _ (bC11 BK302.out) (fun hHeld => ?_)
   clear hK K
   refine norm_ (a' := ?_) ?_ ?_
   rotate_left
   ·show Act.put _ (some 10) _ = _
    simp only [Act.put, List.setIfInBounds_toArray, List.set_cons_zero, List.set_cons_succ, i64_w, i32_w]
    rfl
   refine one_ (i := 3) (N := some 13) #[true, true, true, true, false, false] rfl rfl (by kernel_rfl) (by decide) (fun K hK => ?_)
   refine goes_ Try.func58 (by kernel_rfl) rfl #[.slice A0_7 l0_7.length c0_7] (by rfl) rfl rfl mS ?_
   with_reducible refine (foghornref17_labels.calls k _ _ l0_7 t304 _ ?side1 ?side2 A4.out).mono ?_
   (case side1 => exact mC ((Kd.C_below HR0_7.out HB.out)))
   (case side2 => exact HC0_7.out)
   rintro e w10 ⟨rfl, hb⟩
   refine ⟨_, rfl, ?_⟩
   have n0_ := aA (bB BK302.out hb)
   have n1_ := aA (below_step (mD1 GE302.out) hb)
   clear BK302
   clear HB
   have BK302 := n0_
   have HB := n1_
   clear n0_ n1_
   (try clear hb)
   (try clear hb2)
   (try clear hk)
   (try clear hi)
   refine hK.out _ _ (bC11 BK302.out) (fun hHeld => ?_)
   clear hK K
   refine norm_ (a' := ?_) ?_ ?_
   rotate_left
   ·show Act.put _ (some 13) _ = _
    simp only [Act.put, List.setIfInBounds_toArray, List.set_cons_zero, List.set_cons_succ, i64_w, i32_w]
    rfl
   refine pure_ (i := 4) (N := some 14) (v := ?_) (a' := ?_) #[true, true, true, true, true, false] rfl rfl (by kernel_rfl) (fun _ _ _ h => h) (Or.inl ⟨by rfl, ?_⟩) ?_ ?_
   rotate_left
   ·intro w'
    go_simp
    with_reducible rfl
   rotate_left
   ·exact mP
   refine pure_ (i := 5) (N := some 2) (v := ?_) (a' := ?_) #[true, true, true, true, true, true] rfl rfl (by kernel_rfl) (fun _ _ _ h => h) (Or.inl ⟨by rfl, ?_⟩) ?_ ?_
   rotate_left
   ·intro w'
    go_simp
    with_reducible rfl
   rotate_left
   ·exact mP
   refine done_ (by kernel_rfl) ?_
   try go_wp2
   go_ret
   exact ⟨by first | rfl | (simp [errW_none, errW_some] <;> rfl) | (simp [*, errW_none, errW_some] <;> rfl), by repeat (first | (with_reducible first | exact HB.out | apply below_alloc | apply pw_below_drewN | apply below_drew1 | refine below_set ?_ GE302.out) | exact HB.out)⟩
  ·rw [if_neg c5] at H
   exact absurd H (by simp)
 ·rw [if_neg c2] at H
  have c2b0 : (a0_0 == 2) = false := beq_eq_false_iff_ne.mpr c2
  have c2b1 : (a0_0 != 2) = true := bne_iff_ne.mpr c2
  by_cases c11 : a0_0 = 1
  ·rw [if_pos c11] at H
   have c11b0 : (a0_0 == 1) = true := beq_iff_eq.mpr c11
   have c11b1 : (a0_0 != 1) = false := bne_eq_false_iff_eq.mpr c11
   clear c11
   replace H := Option.bind_eq_some_iff.mp H
   obtain ⟨t306, A120, H⟩ := H
   have A12 := aA A120
   clear A120
   replace H := Option.bind_eq_some_iff.mp H
   obtain ⟨t307, A130, H⟩ := H
   have A13 := aA A130
   clear A130
   by_cases c14 : t306.size + t307.size ≤ 9223372036854775807
   ·rw [if_pos c14] at H
    have c14b0 := eq_true c14
    have c14b1 := decide_eq_true c14
    try have c14b2 : (9223372036854775807 < t306.size + t307.size) = False := eq_false (Nat.not_lt.2 c14)
    replace H := Option.bind_eq_some_iff.mp H
    obtain ⟨t308, A150, H⟩ := H
    have A15 := aA A150
    clear A150
    by_cases c16 : (t306 ++ t307).size + t308.size ≤ 9223372036854775807
    ·rw [if_pos c16] at H
     have c16b0 := eq_true c16
     have c16b1 := decide_eq_true c16
     try have c16b2 : (9223372036854775807 < (t306 ++ t307).size + t308.size) = False := eq_false (Nat.not_lt.2 c16)
     try have c16b3 : (9223372036854775807 < (t306).size + (t307).size + (t308).size) = False := eq_false (by have h_ := c16; simp only [ByteArray.size_append] at h_; omega)
     replace H := Option.bind_eq_some_iff.mp H
     obtain ⟨t309, A170, H⟩ := H
     have A17 := aA A170
     clear A170
     by_cases c18 : ((t306 ++ t307) ++ t308).size + t309.size ≤ 9223372036854775807
     ·rw [if_pos c18] at H
      have c18b0 := eq_true c18
      have c18b1 := decide_eq_true c18
      try have c18b2 : (9223372036854775807 < ((t306 ++ t307) ++ t308).size + t309.size) = False := eq_false (Nat.not_lt.2 c18)
      try have c18b3 : (9223372036854775807 < (t306).size + (t307).size + (t308).size + (t309).size) = False := eq_false (by have h_ := c18; simp only [ByteArray.size_append] at h_; omega)
      replace H := Option.bind_eq_some_iff.mp H
      obtain ⟨t310, A190, H⟩ := H
      have A19 := aA A190
      clear A190
      by_cases c20 : (((t306 ++ t307) ++ t308) ++ t309).size + t310.size ≤ 9223372036854775807
      ·rw [if_pos c20] at H
       have c20b0 := eq_true c20
       have c20b1 := decide_eq_true c20
       try have c20b2 : (9223372036854775807 < (((t306 ++ t307) ++ t308) ++ t309).size + t310.size) = False := eq_false (Nat.not_lt.2 c20)
       try have c20b3 : (9223372036854775807 < (t306).size + (t307).size + (t308).size + (t309).size + (t310).size) = False := eq_false (by have h_ := c20; simp only [ByteArray.size_append] at h_; omega)
       replace H := Option.bind_eq_some_iff.mp H
       obtain ⟨t311, A210, H⟩ := H
       have A21 := aA A210
       clear A210
       by_cases c22 : ((((t306 ++ t307) ++ t308) ++ t309) ++ t310).size + t311.size ≤ 9223372036854775807
       ·rw [if_pos c22] at H
        have c22b0 := eq_true c22
        have c22b1 := decide_eq_true c22
        try have c22b2 : (9223372036854775807 < ((((t306 ++ t307) ++ t308) ++ t309) ++ t310).size + t311.size) = False := eq_false (Nat.not_lt.2 c22)
        try have c22b3 : (9223372036854775807 < (t306).size + (t307).size + (t308).size + (t309).size + (t310).size + (t311).size) = False := eq_false (by have h_ := c22; simp only [ByteArray.size_append] at h_; omega)
        replace H := Option.bind_eq_some_iff.mp H
        obtain ⟨t312, A230, H⟩ := H
        have A23 := aA A230
        clear A230
        by_cases c24 : (((((t306 ++ t307) ++ t308) ++ t309) ++ t310) ++ t311).size + t312.size ≤ 9223372036854775807
        ·rw [if_pos c24] at H
         have c24b0 := eq_true c24
         have c24b1 := decide_eq_true c24
         try have c24b2 : (9223372036854775807 < (((((t306 ++ t307) ++ t308) ++ t309) ++ t310) ++ t311).size + t312.size) = False := eq_false (Nat.not_lt.2 c24)
         try have c24b3 : (9223372036854775807 < (t306).size + (t307).size + (t308).size + (t309).size + (t310).size + (t311).size + (t312).size) = False := eq_false (by have h_ := c24; simp only [ByteArray.size_append] at h_; omega)
         obtain rfl := Option.some.inj H
         go_enter Try.func29, Try.ntmps29
         try go_wp2_with (first | ((with_reducible refine gate_dst (N := 1) rfl ?_); refine box_event ?hg (N := 1) ?hd (cs := #[.int .i64 a0_0, .slice A0_1 l0_1.length c0_1, .int .i64 a0_2, .int .i64 a0_3, .int .i64 a0_4, .int .i64 a0_5, .int .i64 a0_6, .slice A0_7 l0_7.length c0_7, .int .i64 a0_8, .int .i64 a0_9, .slice A0_10 l0_10.length c0_10]) (t := 50) ?hr ?_; (case hd => rfl); (case hg => rfl); (case hr => first | (go_simp; done) | (go_simp; rfl)); intro gb302 hg w25 hbox hb; have n0_ := aA (below_step mB hb); have n1_ := aA (hbox); have n2_ := aA ((bZ hg mB)); have n3_ := aA ((bZ hg mB)); clear HB; have HB := n0_; have BK302 := n1_; have GW302 := n2_; have GE302 := n3_; clear n0_ n1_ n2_ n3_ hb hbox hg; obtain ⟨hcz26_0, hcz26_1, hcz26_2, hcz26_3, hcz26_4, hcz26_5, hcz26_6, hcz26_7, hcz26_8, hcz26_9, hcz26_10⟩ := bC11 BK302.out; obtain ⟨hfz26_0, hfz26_1, hfz26_2, hfz26_3, hfz26_4, hfz26_5, hfz26_6, hfz26_7, hfz26_8, hfz26_9, hfz26_10⟩ := bF11 BK302.out) | ((with_reducible refine gate_dst (N := 3) rfl ?_); refine box_event ?hg (N := 3) ?hd (cs := #[.slice none 0 0, .int .i64 0, .int .i64 0, .int .i64 0, .int .i64 0, .int .i64 0]) (t := 46) ?hr ?_; (case hd => rfl); (case hg => rfl); (case hr => first | (go_simp; done) | (go_simp; rfl)); intro gb305 hg w27 hbox hb; have n0_ := aA (bB BK302.out hb); have n1_ := aA (below_step (mD1 GE302.out) hb); have n2_ := aA (hbox); have n3_ := aA ((bZ hg (mD1 GE302.out))); have n4_ := aA ((bZ hg (mD1 GE302.out))); have n5_ := aA ((bL hg BK302.out)); have n6_ := aA ((bG hg BK302.out)); clear BK302 HB; have BK302 := n0_; have HB := n1_; have BK305 := n2_; have GW305 := n3_; have GE305 := n4_; have NB302_305 := n5_; have NB305_302 := n6_; clear n0_ n1_ n2_ n3_ n4_ n5_ n6_ hb hbox hg; have hnb28 := NB305_302.out; have hnc28 := NB302_305.out; obtain ⟨hcz29_0, hcz29_1, hcz29_2, hcz29_3, hcz29_4, hcz29_5⟩ := bC6 BK305.out; obtain ⟨hfz29_0, hfz29_1, hfz29_2, hfz29_3, hfz29_4, hfz29_5⟩ := bF6 BK305.out))
         have n0_ : Aside0 (((((((w27.setCell ⟨gb305, 0, none⟩ (.slice A0_1 l0_1.length c0_1)).setCell ⟨gb305, 1, none⟩ (.int .i64 a0_2)).setCell ⟨gb305, 2, none⟩ (.int .i64 a0_3)).setCell ⟨gb305, 3, none⟩ (.int .i64 a0_4)).setCell ⟨gb305, 4, none⟩ (.int .i64 a0_5)).setCell ⟨gb305, 5, none⟩ (.int .i64 a0_6)).heap[gb302]? = some (.cells #[.int .i64 a0_0, .slice A0_1 l0_1.length c0_1, .int .i64 a0_2, .int .i64 a0_3, .int .i64 a0_4, .int .i64 a0_5, .int .i64 a0_6, .slice A0_7 l0_7.length c0_7, .int .i64 a0_8, .int .i64 a0_9, .slice A0_10 l0_10.length c0_10] 50 (0, 0))) := ⟨by (with_reducible repeat (first | refine blk_drewN ?_ _ | refine blk_drew ?_ | refine blk_alloc ?_ _)); refine blk_far ?_ NB302_305.out _; (with_reducible repeat (first | refine blk_drewN ?_ _ | refine blk_drew ?_ | refine blk_alloc ?_ _)); refine blk_far ?_ NB302_305.out _; (with_reducible repeat (first | refine blk_drewN ?_ _ | refine blk_drew ?_ | refine blk_alloc ?_ _)); refine blk_far ?_ NB302_305.out _; (with_reducible repeat (first | refine blk_drewN ?_ _ | refine blk_drew ?_ | refine blk_alloc ?_ _)); refine blk_far ?_ NB302_305.out _; (with_reducible repeat (first | refine blk_drewN ?_ _ | refine blk_drew ?_ | refine blk_alloc ?_ _)); refine blk_far ?_ NB302_305.out _; (with_reducible repeat (first | refine blk_drewN ?_ _ | refine blk_drew ?_ | refine blk_alloc ?_ _)); refine blk_far ?_ NB302_305.out _; (with_reducible repeat (first | refine blk_drewN ?_ _ | refine blk_drew ?_ | refine blk_alloc ?_ _)); exact BK302.out⟩
         have n1_ : Aside0 (((((((w27.setCell ⟨gb305, 0, none⟩ (.slice A0_1 l0_1.length c0_1)).setCell ⟨gb305, 1, none⟩ (.int .i64 a0_2)).setCell ⟨gb305, 2, none⟩ (.int .i64 a0_3)).setCell ⟨gb305, 3, none⟩ (.int .i64 a0_4)).setCell ⟨gb305, 4, none⟩ (.int .i64 a0_5)).setCell ⟨gb305, 5, none⟩ (.int .i64 a0_6)).heap[gb305]? = some (.cells #[.slice A0_1 l0_1.length c0_1, .int .i64 a0_2, .int .i64 a0_3, .int .i64 a0_4, .int .i64 a0_5, .int .i64 a0_6] 46 (0, 0))) := ⟨by (with_reducible repeat (first | refine blk_drewN ?_ _ | refine blk_drew ?_ | refine blk_alloc ?_ _)); refine blk_put (cs := #[.slice A0_1 l0_1.length c0_1, .int .i64 a0_2, .int .i64 a0_3, .int .i64 a0_4, .int .i64 a0_5, .int .i64 0]) ?_ 5 _ rfl; (with_reducible repeat (first | refine blk_drewN ?_ _ | refine blk_drew ?_ | refine blk_alloc ?_ _)); refine blk_put (cs := #[.slice A0_1 l0_1.length c0_1, .int .i64 a0_2, .int .i64 a0_3, .int .i64 a0_4, .int .i64 0, .int .i64 0]) ?_ 4 _ rfl; (with_reducible repeat (first | refine blk_drewN ?_ _ | refine blk_drew ?_ | refine blk_alloc ?_ _)); refine blk_put (cs := #[.slice A0_1 l0_1.length c0_1, .int .i64 a0_2, .int .i64 a0_3, .int .i64 0, .int .i64 0, .int .i64 0]) ?_ 3 _ rfl; (with_reducible repeat (first | refine blk_drewN ?_ _ | refine blk_drew ?_ | refine blk_alloc ?_ _)); refine blk_put (cs := #[.slice A0_1 l0_1.length c0_1, .int .i64 a0_2, .int .i64 0, .int .i64 0, .int .i64 0, .int .i64 0]) ?_ 2 _ rfl; (with_reducible repeat (first | refine blk_drewN ?_ _ | refine blk_drew ?_ | refine blk_alloc ?_ _)); refine blk_put (cs := #[.slice A0_1 l0_1.length c0_1, .int .i64 0, .int .i64 0, .int .i64 0, .int .i64 0, .int .i64 0]) ?_ 1 _ rfl; (with_reducible repeat (first | refine blk_drewN ?_ _ | refine blk_drew ?_ | refine blk_alloc ?_ _)); refine blk_put (cs := #[.slice none 0 0, .int .i64 0, .int .i64 0, .int .i64 0, .int .i64 0, .int .i64 0]) ?_ 0 _ rfl; (with_reducible repeat (first | refine blk_drewN ?_ _ | refine blk_drew ?_ | refine blk_alloc ?_ _)); exact BK305.out⟩
         have n2_ : Aside0 (Below w.heap.size w ((((((w27.setCell ⟨gb305, 0, none⟩ (.slice A0_1 l0_1.length c0_1)).setCell ⟨gb305, 1, none⟩ (.int .i64 a0_2)).setCell ⟨gb305, 2, none⟩ (.int .i64 a0_3)).setCell ⟨gb305, 3, none⟩ (.int .i64 a0_4)).setCell ⟨gb305, 4, none⟩ (.int .i64 a0_5)).setCell ⟨gb305, 5, none⟩ (.int .i64 a0_6))) := ⟨by repeat (first | (with_reducible first | exact HB.out | apply below_alloc | apply pw_below_drewN | apply below_drew1 | refine below_set ?_ GE302.out | refine below_set ?_ GE305.out) | exact HB.out)⟩
         (try clear BK302)
         (try clear BK305)
         (try clear HB)
         generalize ((((((w27.setCell ⟨gb305, 0, none⟩ (.slice A0_1 l0_1.length c0_1)).setCell ⟨gb305, 1, none⟩ (.int .i64 a0_2)).setCell ⟨gb305, 2, none⟩ (.int .i64 a0_3)).setCell ⟨gb305, 3, none⟩ (.int .i64 a0_4)).setCell ⟨gb305, 4, none⟩ (.int .i64 a0_5)).setCell ⟨gb305, 5, none⟩ (.int .i64 a0_6)) = w30 at n0_ n1_ n2_ ⊢
         have BK302 := n0_
         have BK305 := n1_
         have HB := n2_
         clear n0_ n1_ n2_
         have n0_ := aA (blk_drew BK302.out)
         have n1_ := aA (blk_drew BK305.out)
         have n2_ := aA (below_drew1 HB.out)
         clear BK302
         clear BK305
         clear HB
         have BK302 := n0_
         have BK305 := n1_
         have HB := n2_
         clear n0_ n1_ n2_
         refine start_ (n := 26) (S := fun w' => w'.cell? ⟨gb305, 0, none⟩ = some (.slice A0_1 l0_1.length c0_1) ∧ w'.cell? ⟨gb305, 1, none⟩ = some (.int .i64 a0_2) ∧ w'.cell? ⟨gb305, 2, none⟩ = some (.int .i64 a0_3) ∧ w'.cell? ⟨gb305, 3, none⟩ = some (.int .i64 a0_4) ∧ w'.cell? ⟨gb305, 4, none⟩ = some (.int .i64 a0_5) ∧ w'.cell? ⟨gb305, 5, none⟩ = some (.int .i64 a0_6)) (ds := []) #[false, false, false, false, false, false, false, false, false, false, false, false, false, false, false, false, false, false, false, false, false, false, false, false, false, false] (by kernel_rfl) rfl rfl (bC6 BK305.out) (fun hHeld => ?_); refine with_tabW foghornref17_Put.tab5 foghornref17_Put.bits5 (fun HT_ HW_ => ?_)
         generalize w30.drew = w31 at BK302 BK305 HB hHeld ⊢
         refine pure_ (i := 1) (N := some 21) (v := ?_) (a' := ?_) #[false, true, false, false, false, false, false, false, false, false, false, false, false, false, false, false, false, false, false, false, false, false, false, false, false, false] rfl rfl (any_of HT_.out (by kernel_rfl)) (fun _ _ _ h => h) (Or.inl ⟨by rfl, ?_⟩) ?_ ?_
         rotate_left
         ·intro w'
          go_simp
          with_reducible rfl
         rotate_left
         ·exact mP
         refine pure_ (i := 5) (N := some 25) (v := ?_) (a' := ?_) #[false, true, false, false, false, true, false, false, false, false, false, false, false, false, false, false, false, false, false, false, false, false, false, false, false, false] rfl rfl (any_of HT_.out (by kernel_rfl)) (fun _ _ _ h => h) (Or.inl ⟨by rfl, ?_⟩) ?_ ?_
         rotate_left
         ·intro w'
          go_simp
          with_reducible rfl
         rotate_left
         ·exact mP
         refine pure_ (i := 9) (N := some 29) (v := ?_) (a' := ?_) #[false, true, false, false, false, true, false, false, false, true, false, false, false, false, false, false, false, false, false, false, false, false, false, false, false, false] rfl rfl (any_of HT_.out (by kernel_rfl)) (fun _ _ _ h => h) (Or.inl ⟨by rfl, ?_⟩) ?_ ?_
         rotate_left
         ·intro w'
          go_simp
          with_reducible rfl
         rotate_left
         ·exact mP
         refine pure_ (i := 13) (N := some 33) (v := ?_) (a' := ?_) #[false, true, false, false, false, true, false, false, false, true, false, false, false, true, false, false, false, false, false, false, false, false, false, false, false, false] rfl rfl (any_of HT_.out (by kernel_rfl)) (fun _ _ _ h => h) (Or.inl ⟨by rfl, ?_⟩) ?_ ?_
         rotate_left
         ·intro w'
          go_simp
          with_reducible rfl
         rotate_left
         ·exact mP
         refine pure_ (i := 17) (N := some 37) (v := ?_) (a' := ?_) #[false, true, false, false, false, true, false, false, false, true, false, false, false, true, false, false, false, true, false, false, false, false, false, false, false, false] rfl rfl (any_of HT_.out (by kernel_rfl)) (fun _ _ _ h => h) (Or.inl ⟨by rfl, ?_⟩) ?_ ?_
         rotate_left
         ·intro w'
          go_simp
          with_reducible rfl
         rotate_left
         ·exact mP
         refine pure_ (i := 21) (N := some 41) (v := ?_) (a' := ?_) #[false, true, false, false, false, true, false, false, false, true, false, false, false, true, false, false, false, true, false, false, false, true, false, false, false, false] rfl rfl (any_of HT_.out (by kernel_rfl)) (fun _ _ _ h => h) (Or.inl ⟨by rfl, ?_⟩) ?_ ?_
         rotate_left
         ·intro w'
          go_simp
          with_reducible rfl
         rotate_left
         ·exact mP
         refine take_ (i := 2) (N := some 22) (v := ?_) (a' := ?_) #[false, true, true, false, false, true, false, false, false, true, false, false, false, true, false, false, false, true, false, false, false, true, false, false, false, false] rfl rfl (take_ofW HT_.out HW_.out (by kernel_rfl)) (fun _ _ _ h => h) (Or.inl ⟨by rfl, ?_⟩) hHeld ?_ ?_
         rotate_left
         ·rintro w' ⟨s0, s1, s2, s3, s4, s5⟩
          go_simp
          with_reducible rfl
         rotate_left
         ·exact mP
         refine take_ (i := 6) (N := some 26) (v := ?_) (a' := ?_) #[false, true, true, false, false, true, true, false, false, true, false, false, false, true, false, false, false, true, false, false, false, true, false, false, false, false] rfl rfl (take_ofW HT_.out HW_.out (by kernel_rfl)) (fun _ _ _ h => h) (Or.inl ⟨by rfl, ?_⟩) hHeld ?_ ?_
         rotate_left
         ·rintro w' ⟨s0, s1, s2, s3, s4, s5⟩
          go_simp
          with_reducible rfl
         rotate_left
         ·exact mP
         refine take_ (i := 10) (N := some 30) (v := ?_) (a' := ?_) #[false, true, true, false, false, true, true, false, false, true, true, false, false, true, false, false, false, true, false, false, false, true, false, false, false, false] rfl rfl (take_ofW HT_.out HW_.out (by kernel_rfl)) (fun _ _ _ h => h) (Or.inl ⟨by rfl, ?_⟩) hHeld ?_ ?_
         rotate_left
         ·rintro w' ⟨s0, s1, s2, s3, s4, s5⟩
          go_simp
          with_reducible rfl
         rotate_left
         ·exact mP
         refine take_ (i := 14) (N := some 34) (v := ?_) (a' := ?_) #[false, true, true, false, false, true, true, false, false, true, true, false, false, true, true, false, false, true, false, false, false, true, false, false, false, false] rfl rfl (take_ofW HT_.out HW_.out (by kernel_rfl)) (fun _ _ _ h => h) (Or.inl ⟨by rfl, ?_⟩) hHeld ?_ ?_
         rotate_left
         ·rintro w' ⟨s0, s1, s2, s3, s4, s5⟩
          go_simp
          with_reducible rfl
         rotate_left
         ·exact mP
         refine take_ (i := 18) (N := some 38) (v := ?_) (a' := ?_) #[false, true, true, false, false, true, true, false, false, true, true, false, false, true, true, false, false, true, true, false, false, true, false, false, false, false] rfl rfl (take_ofW HT_.out HW_.out (by kernel_rfl)) (fun _ _ _ h => h) (Or.inl ⟨by rfl, ?_⟩) hHeld ?_ ?_
         rotate_left
         ·rintro w' ⟨s0, s1, s2, s3, s4, s5⟩
          go_simp
          with_reducible rfl
         rotate_left
         ·exact mP
         refine take_ (i := 22) (N := some 42) (v := ?_) (a' := ?_) #[false, true, true, false, false, true, true, false, false, true, true, false, false, true, true, false, false, true, true, false, false, true, true, false, false, false] rfl rfl (take_ofW HT_.out HW_.out (by kernel_rfl)) (fun _ _ _ h => h) (Or.inl ⟨by rfl, ?_⟩) hHeld ?_ ?_
         rotate_left
         ·rintro w' ⟨s0, s1, s2, s3, s4, s5⟩
          go_simp
          with_reducible rfl
         rotate_left
         ·exact mP
         refine one_ (i := 0) (N := some 20) #[true, true, true, false, false, true, true, false, false, true, true, false, false, true, true, false, false, true, true, false, false, true, true, false, false, false] rfl rfl (one_of HT_.out (by kernel_rfl)) (by decide) (fun K hK => ?_)
         refine goes_ Try.func57 (by kernel_rfl) rfl #[.int .i64 1] (by rfl) rfl rfl mS ?_
         with_reducible refine (foghornref17_one.calls 1 t306 _ A12.out).mono ?_
         rintro e w32 ⟨rfl, hb⟩
         refine ⟨_, rfl, ?_⟩
         have n0_ := aA (bB BK302.out hb)
         have n1_ := aA (bB BK305.out hb)
         have n2_ := aA (below_step (mD2 GE302.out GE305.out) hb)
         clear BK302
         clear BK305
         clear HB
         have BK302 := n0_
         have BK305 := n1_
         have HB := n2_
         clear n0_ n1_ n2_
         (try clear hb)
         (try clear hb2)
         (try clear hk)
         (try clear hi)
         refine hK.out _ _ (bC6 BK305.out) (fun hHeld => ?_)
         clear hK K
         refine norm_ (a' := ?_) ?_ ?_
         rotate_left
         ·show Act.put _ (some 20) _ = _
          simp only [Act.put, List.setIfInBounds_toArray, List.set_cons_zero, List.set_cons_succ, i64_w, i32_w]
          rfl
         refine one_ (i := 3) (N := some 23) #[true, true, true, true, false, true, true, false, false, true, true, false, false, true, true, false, false, true, true, false, false, true, true, false, false, false] rfl rfl (one_of HT_.out (by kernel_rfl)) (by decide) (fun K hK => ?_)
         refine goes_ Try.func57 (by kernel_rfl) rfl #[.int .i64 a0_2] (by rfl) rfl rfl mS ?_
         with_reducible refine (foghornref17_one.calls a0_2 t307 _ A13.out).mono ?_
         rintro e w33 ⟨rfl, hb⟩
         refine ⟨_, rfl, ?_⟩
         have n0_ := aA (bB BK302.out hb)
         have n1_ := aA (bB BK305.out hb)
         have n2_ := aA (below_step (mD2 GE302.out GE305.out) hb)
         clear BK302
         clear BK305
         clear HB
         have BK302 := n0_
         have BK305 := n1_
         have HB := n2_
         clear n0_ n1_ n2_
         (try clear hb)
         (try clear hb2)
         (try clear hk)
         (try clear hi)
         refine hK.out _ _ (bC6 BK305.out) (fun hHeld => ?_)
         clear hK K
         refine norm_ (a' := ?_) ?_ ?_
         rotate_left
         ·show Act.put _ (some 23) _ = _
          simp only [Act.put, List.setIfInBounds_toArray, List.set_cons_zero, List.set_cons_succ, i64_w, i32_w]
          rfl
         refine pure_ (i := 4) (N := some 24) (v := ?_) (a' := ?_) #[true, true, true, true, true, true, true, false, false, true, true, false, false, true, true, false, false, true, true, false, false, true, true, false, false, false] rfl rfl (any_of HT_.out (by kernel_rfl)) (fun _ _ _ h => h) (Or.inl ⟨by rfl, ?_⟩) ?_ ?_
         rotate_left
         ·intro w'
          go_simp
          with_reducible rfl
         rotate_left
         ·exact mP
         refine one_ (i := 7) (N := some 27) #[true, true, true, true, true, true, true, true, false, true, true, false, false, true, true, false, false, true, true, false, false, true, true, false, false, false] rfl rfl (one_of HT_.out (by kernel_rfl)) (by decide) (fun K hK => ?_)
         refine goes_ Try.func57 (by kernel_rfl) rfl #[.int .i64 a0_3] (by rfl) rfl rfl mS ?_
         with_reducible refine (foghornref17_one.calls a0_3 t308 _ A15.out).mono ?_
         rintro e w34 ⟨rfl, hb⟩
         refine ⟨_, rfl, ?_⟩
         have n0_ := aA (bB BK302.out hb)
         have n1_ := aA (bB BK305.out hb)
         have n2_ := aA (below_step (mD2 GE302.out GE305.out) hb)
         clear BK302
         clear BK305
         clear HB
         have BK302 := n0_
         have BK305 := n1_
         have HB := n2_
         clear n0_ n1_ n2_
         (try clear hb)
         (try clear hb2)
         (try clear hk)
         (try clear hi)
         refine hK.out _ _ (bC6 BK305.out) (fun hHeld => ?_)
         clear hK K
         refine norm_ (a' := ?_) ?_ ?_
         rotate_left
         ·show Act.put _ (some 27) _ = _
          simp only [Act.put, List.setIfInBounds_toArray, List.set_cons_zero, List.set_cons_succ, i64_w, i32_w]
          rfl
         refine pure_ (i := 8) (N := some 28) (v := ?_) (a' := ?_) #[true, true, true, true, true, true, true, true, true, true, true, false, false, true, true, false, false, true, true, false, false, true, true, false, false, false] rfl rfl (any_of HT_.out (by kernel_rfl)) (fun _ _ _ h => h) (Or.inl ⟨by rfl, ?_⟩) ?_ ?_
         rotate_left
         ·intro w'
          go_simp
          with_reducible rfl
         rotate_left
         ·exact mP
         refine one_ (i := 11) (N := some 31) #[true, true, true, true, true, true, true, true, true, true, true, true, false, true, true, false, false, true, true, false, false, true, true, false, false, false] rfl rfl (one_of HT_.out (by kernel_rfl)) (by decide) (fun K hK => ?_)
         refine goes_ Try.func57 (by kernel_rfl) rfl #[.int .i64 a0_4] (by rfl) rfl rfl mS ?_
         with_reducible refine (foghornref17_one.calls a0_4 t309 _ A17.out).mono ?_
         rintro e w35 ⟨rfl, hb⟩
         refine ⟨_, rfl, ?_⟩
         have n0_ := aA (bB BK302.out hb)
         have n1_ := aA (bB BK305.out hb)
         have n2_ := aA (below_step (mD2 GE302.out GE305.out) hb)
         clear BK302
         clear BK305
         clear HB
         have BK302 := n0_
         have BK305 := n1_
         have HB := n2_
         clear n0_ n1_ n2_
         (try clear hb)
         (try clear hb2)
         (try clear hk)
         (try clear hi)
         refine hK.out _ _ (bC6 BK305.out) (fun hHeld => ?_)
         clear hK K
         refine norm_ (a' := ?_) ?_ ?_
         rotate_left
         ·show Act.put _ (some 31) _ = _
          simp only [Act.put, List.setIfInBounds_toArray, List.set_cons_zero, List.set_cons_succ, i64_w, i32_w]
          rfl
         refine pure_ (i := 12) (N := some 32) (v := ?_) (a' := ?_) #[true, true, true, true, true, true, true, true, true, true, true, true, true, true, true, false, false, true, true, false, false, true, true, false, false, false] rfl rfl (any_of HT_.out (by kernel_rfl)) (fun _ _ _ h => h) (Or.inl ⟨by rfl, ?_⟩) ?_ ?_
         rotate_left
         ·intro w'
          go_simp
          with_reducible rfl
         rotate_left
         ·exact mP
         refine one_ (i := 15) (N := some 35) #[true, true, true, true, true, true, true, true, true, true, true, true, true, true, true, true, false, true, true, false, false, true, true, false, false, false] rfl rfl (one_of HT_.out (by kernel_rfl)) (by decide) (fun K hK => ?_)
         refine goes_ Try.func57 (by kernel_rfl) rfl #[.int .i64 a0_6] (by rfl) rfl rfl mS ?_
         with_reducible refine (foghornref17_one.calls a0_6 t310 _ A19.out).mono ?_
         rintro e w36 ⟨rfl, hb⟩
         refine ⟨_, rfl, ?_⟩
         have n0_ := aA (bB BK302.out hb)
         have n1_ := aA (bB BK305.out hb)
         have n2_ := aA (below_step (mD2 GE302.out GE305.out) hb)
         clear BK302
         clear BK305
         clear HB
         have BK302 := n0_
         have BK305 := n1_
         have HB := n2_
         clear n0_ n1_ n2_
         (try clear hb)
         (try clear hb2)
         (try clear hk)
         (try clear hi)
         refine hK.out _ _ (bC6 BK305.out) (fun hHeld => ?_)
         clear hK K
         refine norm_ (a' := ?_) ?_ ?_
         rotate_left
         ·show Act.put _ (some 35) _ = _
          simp only [Act.put, List.setIfInBounds_toArray, List.set_cons_zero, List.set_cons_succ, i64_w, i32_w]
          rfl
         refine pure_ (i := 16) (N := some 36) (v := ?_) (a' := ?_) #[true, true, true, true, true, true, true, true, true, true, true, true, true, true, true, true, true, true, true, false, false, true, true, false, false, false] rfl rfl (any_of HT_.out (by kernel_rfl)) (fun _ _ _ h => h) (Or.inl ⟨by rfl, ?_⟩) ?_ ?_
         rotate_left
         ·intro w'
          go_simp
          with_reducible rfl
         rotate_left
         ·exact mP
         refine one_ (i := 19) (N := some 39) #[true, true, true, true, true, true, true, true, true, true, true, true, true, true, true, true, true, true, true, true, false, true, true, false, false, false] rfl rfl (one_of HT_.out (by kernel_rfl)) (by decide) (fun K hK => ?_)
         refine goes_ Try.func59 (by kernel_rfl) rfl #[.int .i64 a0_5] (by rfl) rfl rfl mS ?_
         with_reducible refine (foghornref17_six.calls k a0_5 t311 _ A21.out).mono ?_
         rintro e w37 ⟨rfl, hb⟩
         refine ⟨_, rfl, ?_⟩
         have n0_ := aA (bB BK302.out hb)
         have n1_ := aA (bB BK305.out hb)
         have n2_ := aA (below_step (mD2 GE302.out GE305.out) hb)
         clear BK302
         clear BK305
         clear HB
         have BK302 := n0_
         have BK305 := n1_
         have HB := n2_
         clear n0_ n1_ n2_
         (try clear hb)
         (try clear hb2)
         (try clear hk)
         (try clear hi)
         refine hK.out _ _ (bC6 BK305.out) (fun hHeld => ?_)
         clear hK K
         refine norm_ (a' := ?_) ?_ ?_
         rotate_left
         ·show Act.put _ (some 39) _ = _
          simp only [Act.put, List.setIfInBounds_toArray, List.set_cons_zero, List.set_cons_succ, i64_w, i32_w]
          rfl
         refine pure_ (i := 20) (N := some 40) (v := ?_) (a' := ?_) #[true, true, true, true, true, true, true, true, true, true, true, true, true, true, true, true, true, true, true, true, true, true, true, false, false, false] rfl rfl (any_of HT_.out (by kernel_rfl)) (fun _ _ _ h => h) (Or.inl ⟨by rfl, ?_⟩) ?_ ?_
         rotate_left
         ·intro w'
          go_simp
          with_reducible rfl
         rotate_left
         ·exact mP
         refine one_ (i := 23) (N := some 43) #[true, true, true, true, true, true, true, true, true, true, true, true, true, true, true, true, true, true, true, true, true, true, true, true, false, false] rfl rfl (one_of HT_.out (by kernel_rfl)) (by decide) (fun K hK => ?_)
         refine goes_ Try.func58 (by kernel_rfl) rfl #[.slice A0_1 l0_1.length c0_1] (by rfl) rfl rfl mS ?_
         with_reducible refine (foghornref17_labels.calls k _ _ l0_1 t312 _ ?side1 ?side2 A23.out).mono ?_
         (case side1 => exact mC ((Kd.C_below HR0_1.out HB.out)))
         (case side2 => exact HC0_1.out)
         rintro e w38 ⟨rfl, hb⟩
         refine ⟨_, rfl, ?_⟩
         have n0_ := aA (bB BK302.out hb)
         have n1_ := aA (bB BK305.out hb)
         have n2_ := aA (below_step (mD2 GE302.out GE305.out) hb)
         clear BK302
         clear BK305
         clear HB
         have BK302 := n0_
         have BK305 := n1_
         have HB := n2_
         clear n0_ n1_ n2_
         (try clear hb)
         (try clear hb2)
         (try clear hk)
         (try clear hi)
         refine hK.out _ _ (bC6 BK305.out) (fun hHeld => ?_)
         clear hK K
         refine norm_ (a' := ?_) ?_ ?_
         rotate_left
         ·show Act.put _ (some 43) _ = _
          simp only [Act.put, List.setIfInBounds_toArray, List.set_cons_zero, List.set_cons_succ, i64_w, i32_w]
          rfl
         refine pure_ (i := 24) (N := some 44) (v := ?_) (a' := ?_) #[true, true, true, true, true, true, true, true, true, true, true, true, true, true, true, true, true, true, true, true, true, true, true, true, true, false] rfl rfl (any_of HT_.out (by kernel_rfl)) (fun _ _ _ h => h) (Or.inl ⟨by rfl, ?_⟩) ?_ ?_
         rotate_left
         ·intro w'
          go_simp
          with_reducible rfl
         rotate_left
         ·exact mP
         refine pure_ (i := 25) (N := some 2) (v := ?_) (a' := ?_) #[true, true, true, true, true, true, true, true, true, true, true, true, true, true, true, true, true, true, true, true, true, true, true, true, true, true] rfl rfl (any_of HT_.out (by kernel_rfl)) (fun _ _ _ h => h) (Or.inl ⟨by rfl, ?_⟩) ?_ ?_
         rotate_left
         ·intro w'
          go_simp
          with_reducible rfl
         rotate_left
         ·exact mP
         refine done_ (done_of HT_.out (by kernel_rfl)) ?_
         try go_wp2
         go_ret
         exact ⟨by first | rfl | (simp [errW_none, errW_some] <;> rfl) | (simp [*, errW_none, errW_some] <;> rfl), by repeat (first | (with_reducible first | exact HB.out | apply below_alloc | apply pw_below_drewN | apply below_drew1 | refine below_set ?_ GE302.out | refine below_set ?_ GE305.out) | exact HB.out)⟩
        ·rw [if_neg c24] at H
         exact absurd H (by simp)
       ·rw [if_neg c22] at H
        exact absurd H (by simp)
      ·rw [if_neg c20] at H
       exact absurd H (by simp)
     ·rw [if_neg c18] at H
      exact absurd H (by simp)
    ·rw [if_neg c16] at H
     exact absurd H (by simp)
   ·rw [if_neg c14] at H
    exact absurd H (by simp)
  ·rw [if_neg c11] at H
   have c11b0 : (a0_0 == 1) = false := beq_eq_false_iff_ne.mpr c11
   have c11b1 : (a0_0 != 1) = true := bne_iff_ne.mpr c11
   replace H := Option.bind_eq_some_iff.mp H
   obtain ⟨t313, A390, H⟩ := H
   have A39 := aA A390
   clear A390
   replace H := Option.bind_eq_some_iff.mp H
   obtain ⟨t314, A400, H⟩ := H
   have A40 := aA A400
   clear A400
   by_cases c41 : t313.size + t314.size ≤ 9223372036854775807
   ·rw [if_pos c41] at H
    have c41b0 := eq_true c41
    have c41b1 := decide_eq_true c41
    try have c41b2 : (9223372036854775807 < t313.size + t314.size) = False := eq_false (Nat.not_lt.2 c41)
    replace H := Option.bind_eq_some_iff.mp H
    obtain ⟨t315, A420, H⟩ := H
    have A42 := aA A420
    clear A420
    by_cases c43 : (t313 ++ t314).size + t315.size ≤ 9223372036854775807
    ·rw [if_pos c43] at H
     have c43b0 := eq_true c43
     have c43b1 := decide_eq_true c43
     try have c43b2 : (9223372036854775807 < (t313 ++ t314).size + t315.size) = False := eq_false (Nat.not_lt.2 c43)
     try have c43b3 : (9223372036854775807 < (t313).size + (t314).size + (t315).size) = False := eq_false (by have h_ := c43; simp only [ByteArray.size_append] at h_; omega)
     replace H := Option.bind_eq_some_iff.mp H
     obtain ⟨t316, A440, H⟩ := H
     have A44 := aA A440
     clear A440
     by_cases c45 : ((t313 ++ t314) ++ t315).size + t316.size ≤ 9223372036854775807
     ·rw [if_pos c45] at H
      have c45b0 := eq_true c45
      have c45b1 := decide_eq_true c45
      try have c45b2 : (9223372036854775807 < ((t313 ++ t314) ++ t315).size + t316.size) = False := eq_false (Nat.not_lt.2 c45)
      try have c45b3 : (9223372036854775807 < (t313).size + (t314).size + (t315).size + (t316).size) = False := eq_false (by have h_ := c45; simp only [ByteArray.size_append] at h_; omega)
      have H' := aA H
      clear H
      go_enter Try.func29, Try.ntmps29
      try go_wp2_with (first | ((with_reducible refine gate_dst (N := 1) rfl ?_); refine box_event ?hg (N := 1) ?hd (cs := #[.int .i64 a0_0, .slice A0_1 l0_1.length c0_1, .int .i64 a0_2, .int .i64 a0_3, .int .i64 a0_4, .int .i64 a0_5, .int .i64 a0_6, .slice A0_7 l0_7.length c0_7, .int .i64 a0_8, .int .i64 a0_9, .slice A0_10 l0_10.length c0_10]) (t := 50) ?hr ?_; (case hd => rfl); (case hg => rfl); (case hr => first | (go_simp; done) | (go_simp; rfl)); intro gb302 hg w46 hbox hb; have n0_ := aA (below_step mB hb); have n1_ := aA (hbox); have n2_ := aA ((bZ hg mB)); have n3_ := aA ((bZ hg mB)); clear HB; have HB := n0_; have BK302 := n1_; have GW302 := n2_; have GE302 := n3_; clear n0_ n1_ n2_ n3_ hb hbox hg; obtain ⟨hcz47_0, hcz47_1, hcz47_2, hcz47_3, hcz47_4, hcz47_5, hcz47_6, hcz47_7, hcz47_8, hcz47_9, hcz47_10⟩ := bC11 BK302.out; obtain ⟨hfz47_0, hfz47_1, hfz47_2, hfz47_3, hfz47_4, hfz47_5, hfz47_6, hfz47_7, hfz47_8, hfz47_9, hfz47_10⟩ := bF11 BK302.out))
      have n0_ := aA (blk_drew BK302.out)
      have n1_ := aA (below_drew1 HB.out)
      clear BK302
      clear HB
      have BK302 := n0_
      have HB := n1_
      clear n0_ n1_
      refine start_ (n := 18) (S := fun w' => w'.cell? ⟨gb302, 0, none⟩ = some (.int .i64 a0_0) ∧ w'.cell? ⟨gb302, 1, none⟩ = some (.slice A0_1 l0_1.length c0_1) ∧ w'.cell? ⟨gb302, 2, none⟩ = some (.int .i64 a0_2) ∧ w'.cell? ⟨gb302, 3, none⟩ = some (.int .i64 a0_3) ∧ w'.cell? ⟨gb302, 4, none⟩ = some (.int .i64 a0_4) ∧ w'.cell? ⟨gb302, 5, none⟩ = some (.int .i64 a0_5) ∧ w'.cell? ⟨gb302, 6, none⟩ = some (.int .i64 a0_6) ∧ w'.cell? ⟨gb302, 7, none⟩ = some (.slice A0_7 l0_7.length c0_7) ∧ w'.cell? ⟨gb302, 8, none⟩ = some (.int .i64 a0_8) ∧ w'.cell? ⟨gb302, 9, none⟩ = some (.int .i64 a0_9) ∧ w'.cell? ⟨gb302, 10, none⟩ = some (.slice A0_10 l0_10.length c0_10)) (ds := []) #[false, false, false, false, false, false, false, false, false, false, false, false, false, false, false, false, false, false] (by kernel_rfl) rfl rfl (bC11 BK302.out) (fun hHeld => ?_); refine with_tabW foghornref17_Put.tab6 foghornref17_Put.bits6 (fun HT_ HW_ => ?_)
      generalize w46.drew = w48 at BK302 HB hHeld ⊢
      refine pure_ (i := 1) (N := some 46) (v := ?_) (a' := ?_) #[false, true, false, false, false, false, false, false, false, false, false, false, false, false, false, false, false, false] rfl rfl (any_of HT_.out (by kernel_rfl)) (fun _ _ _ h => h) (Or.inl ⟨by rfl, ?_⟩) ?_ ?_
      rotate_left
      ·intro w'
       go_simp
       with_reducible rfl
      rotate_left
      ·exact mP
      refine pure_ (i := 2) (N := some 47) (v := ?_) (a' := ?_) #[false, true, true, false, false, false, false, false, false, false, false, false, false, false, false, false, false, false] rfl rfl (any_of HT_.out (by kernel_rfl)) (fun _ _ _ h => h) (Or.inl ⟨by rfl, ?_⟩) ?_ ?_
      rotate_left
      ·intro w'
       go_simp
       with_reducible rfl
      rotate_left
      ·exact mP
      refine pure_ (i := 6) (N := some 51) (v := ?_) (a' := ?_) #[false, true, true, false, false, false, true, false, false, false, false, false, false, false, false, false, false, false] rfl rfl (any_of HT_.out (by kernel_rfl)) (fun _ _ _ h => h) (Or.inl ⟨by rfl, ?_⟩) ?_ ?_
      rotate_left
      ·intro w'
       go_simp
       with_reducible rfl
      rotate_left
      ·exact mP
      refine pure_ (i := 7) (N := some 52) (v := ?_) (a' := ?_) #[false, true, true, false, false, false, true, true, false, false, false, false, false, false, false, false, false, false] rfl rfl (any_of HT_.out (by kernel_rfl)) (fun _ _ _ h => h) (Or.inl ⟨by rfl, ?_⟩) ?_ ?_
      rotate_left
      ·intro w'
       go_simp
       with_reducible rfl
      rotate_left
      ·exact mP
      refine pure_ (i := 11) (N := some 56) (v := ?_) (a' := ?_) #[false, true, true, false, false, false, true, true, false, false, false, true, false, false, false, false, false, false] rfl rfl (any_of HT_.out (by kernel_rfl)) (fun _ _ _ h => h) (Or.inl ⟨by rfl, ?_⟩) ?_ ?_
      rotate_left
      ·intro w'
       go_simp
       with_reducible rfl
      rotate_left
      ·exact mP
      refine pure_ (i := 12) (N := some 57) (v := ?_) (a' := ?_) #[false, true, true, false, false, false, true, true, false, false, false, true, true, false, false, false, false, false] rfl rfl (any_of HT_.out (by kernel_rfl)) (fun _ _ _ h => h) (Or.inl ⟨by rfl, ?_⟩) ?_ ?_
      rotate_left
      ·intro w'
       go_simp
       with_reducible rfl
      rotate_left
      ·exact mP
      refine take_ (i := 3) (N := some 48) (v := ?_) (a' := ?_) #[false, true, true, true, false, false, true, true, false, false, false, true, true, false, false, false, false, false] rfl rfl (take_ofW HT_.out HW_.out (by kernel_rfl)) (fun _ _ _ h => h) (Or.inl ⟨by rfl, ?_⟩) hHeld ?_ ?_
      rotate_left
      ·rintro w' ⟨s0, s1, s2, s3, s4, s5, s6, s7, s8, s9, s10⟩
       go_simp
       with_reducible rfl
      rotate_left
      ·exact mP
      refine take_ (i := 8) (N := some 53) (v := ?_) (a' := ?_) #[false, true, true, true, false, false, true, true, true, false, false, true, true, false, false, false, false, false] rfl rfl (take_ofW HT_.out HW_.out (by kernel_rfl)) (fun _ _ _ h => h) (Or.inl ⟨by rfl, ?_⟩) hHeld ?_ ?_
      rotate_left
      ·rintro w' ⟨s0, s1, s2, s3, s4, s5, s6, s7, s8, s9, s10⟩
       go_simp
       with_reducible rfl
      rotate_left
      ·exact mP
      refine take_ (i := 13) (N := some 58) (v := ?_) (a' := ?_) #[false, true, true, true, false, false, true, true, true, false, false, true, true, true, false, false, false, false] rfl rfl (take_ofW HT_.out HW_.out (by kernel_rfl)) (fun _ _ _ h => h) (Or.inl ⟨by rfl, ?_⟩) hHeld ?_ ?_
      rotate_left
      ·rintro w' ⟨s0, s1, s2, s3, s4, s5, s6, s7, s8, s9, s10⟩
       go_simp
       with_reducible rfl
      rotate_left
      ·exact mP
      refine pure_ (i := 14) (N := some 59) (v := ?_) (a' := ?_) #[false, true, true, true, false, false, true, true, true, false, false, true, true, true, true, false, false, false] rfl rfl (any_of HT_.out (by kernel_rfl)) (fun _ _ _ h => h) (Or.inl ⟨by rfl, ?_⟩) ?_ ?_
      rotate_left
      ·intro w'
       go_simp
       with_reducible rfl
      rotate_left
      ·exact mP
      refine one_ (i := 0) (N := some 45) #[true, true, true, true, false, false, true, true, true, false, false, true, true, true, true, false, false, false] rfl rfl (one_of HT_.out (by kernel_rfl)) (by decide) (fun K hK => ?_)
      refine goes_ Try.func57 (by kernel_rfl) rfl #[.int .i64 3] (by rfl) rfl rfl mS ?_
      with_reducible refine (foghornref17_one.calls 3 t313 _ A39.out).mono ?_
      rintro e w49 ⟨rfl, hb⟩
      refine ⟨_, rfl, ?_⟩
      have n0_ := aA (bB BK302.out hb)
      have n1_ := aA (below_step (mD1 GE302.out) hb)
      clear BK302
      clear HB
      have BK302 := n0_
      have HB := n1_
      clear n0_ n1_
      (try clear hb)
      (try clear hb2)
      (try clear hk)
      (try clear hi)
      refine hK.out _ _ (bC11 BK302.out) (fun hHeld => ?_)
      clear hK K
      refine norm_ (a' := ?_) ?_ ?_
      rotate_left
      ·show Act.put _ (some 45) _ = _
       simp only [Act.put, List.setIfInBounds_toArray, List.set_cons_zero, List.set_cons_succ, i64_w, i32_w]
       rfl
      refine one_ (i := 4) (N := some 49) #[true, true, true, true, true, false, true, true, true, false, false, true, true, true, true, false, false, false] rfl rfl (one_of HT_.out (by kernel_rfl)) (by decide) (fun K hK => ?_)
      refine goes_ Try.func59 (by kernel_rfl) rfl #[.int .i64 a0_8] (by rfl) rfl rfl mS ?_
      with_reducible refine (foghornref17_six.calls k a0_8 t314 _ A40.out).mono ?_
      rintro e w50 ⟨rfl, hb⟩
      refine ⟨_, rfl, ?_⟩
      have n0_ := aA (bB BK302.out hb)
      have n1_ := aA (below_step (mD1 GE302.out) hb)
      clear BK302
      clear HB
      have BK302 := n0_
      have HB := n1_
      clear n0_ n1_
      (try clear hb)
      (try clear hb2)
      (try clear hk)
      (try clear hi)
      refine hK.out _ _ (bC11 BK302.out) (fun hHeld => ?_)
      clear hK K
      refine norm_ (a' := ?_) ?_ ?_
      rotate_left
      ·show Act.put _ (some 49) _ = _
       simp only [Act.put, List.setIfInBounds_toArray, List.set_cons_zero, List.set_cons_succ, i64_w, i32_w]
       rfl
      refine pure_ (i := 5) (N := some 50) (v := ?_) (a' := ?_) #[true, true, true, true, true, true, true, true, true, false, false, true, true, true, true, false, false, false] rfl rfl (any_of HT_.out (by kernel_rfl)) (fun _ _ _ h => h) (Or.inl ⟨by rfl, ?_⟩) ?_ ?_
      rotate_left
      ·intro w'
       go_simp
       with_reducible rfl
      rotate_left
      ·exact mP
      refine one_ (i := 9) (N := some 54) #[true, true, true, true, true, true, true, true, true, true, false, true, true, true, true, false, false, false] rfl rfl (one_of HT_.out (by kernel_rfl)) (by decide) (fun K hK => ?_)
      refine goes_ Try.func59 (by kernel_rfl) rfl #[.int .i64 a0_9] (by rfl) rfl rfl mS ?_
      with_reducible refine (foghornref17_six.calls k a0_9 t315 _ A42.out).mono ?_
      rintro e w51 ⟨rfl, hb⟩
      refine ⟨_, rfl, ?_⟩
      have n0_ := aA (bB BK302.out hb)
      have n1_ := aA (below_step (mD1 GE302.out) hb)
      clear BK302
      clear HB
      have BK302 := n0_
      have HB := n1_
      clear n0_ n1_
      (try clear hb)
      (try clear hb2)
      (try clear hk)
      (try clear hi)
      refine hK.out _ _ (bC11 BK302.out) (fun hHeld => ?_)
      clear hK K
      refine norm_ (a' := ?_) ?_ ?_
      rotate_left
      ·show Act.put _ (some 54) _ = _
       simp only [Act.put, List.setIfInBounds_toArray, List.set_cons_zero, List.set_cons_succ, i64_w, i32_w]
       rfl
      refine pure_ (i := 10) (N := some 55) (v := ?_) (a' := ?_) #[true, true, true, true, true, true, true, true, true, true, true, true, true, true, true, false, false, false] rfl rfl (any_of HT_.out (by kernel_rfl)) (fun _ _ _ h => h) (Or.inl ⟨by rfl, ?_⟩) ?_ ?_
      rotate_left
      ·intro w'
       go_simp
       with_reducible rfl
      rotate_left
      ·exact mP
      refine one_ (i := 15) (N := some 60) #[true, true, true, true, true, true, true, true, true, true, true, true, true, true, true, true, false, false] rfl rfl (one_of HT_.out (by kernel_rfl)) (by decide) (fun K hK => ?_)
      refine goes_ Try.func57 (by kernel_rfl) rfl #[.int .i64 (l0_10.length : Int)] (by rfl) rfl rfl mS ?_
      with_reducible refine (foghornref17_one.calls (l0_10.length : Int) t316 _ A44.out).mono ?_
      rintro e w52 ⟨rfl, hb⟩
      refine ⟨_, rfl, ?_⟩
      have n0_ := aA (bB BK302.out hb)
      have n1_ := aA (below_step (mD1 GE302.out) hb)
      clear BK302
      clear HB
      have BK302 := n0_
      have HB := n1_
      clear n0_ n1_
      (try clear hb)
      (try clear hb2)
      (try clear hk)
      (try clear hi)
      refine hK.out _ _ (bC11 BK302.out) (fun hHeld => ?_)
      clear hK K
      refine norm_ (a' := ?_) ?_ ?_
      rotate_left
      ·show Act.put _ (some 60) _ = _
       simp only [Act.put, List.setIfInBounds_toArray, List.set_cons_zero, List.set_cons_succ, i64_w, i32_w]
       rfl
      refine pure_ (i := 16) (N := some 61) (v := ?_) (a' := ?_) #[true, true, true, true, true, true, true, true, true, true, true, true, true, true, true, true, true, false] rfl rfl (any_of HT_.out (by kernel_rfl)) (fun _ _ _ h => h) (Or.inl ⟨by rfl, ?_⟩) ?_ ?_
      rotate_left
      ·intro w'
       go_simp
       with_reducible rfl
      rotate_left
      ·exact mP
      refine pure_ (i := 17) (N := some 4) (v := ?_) (a' := ?_) #[true, true, true, true, true, true, true, true, true, true, true, true, true, true, true, true, true, true] rfl rfl (any_of HT_.out (by kernel_rfl)) (fun _ _ _ h => h) (Or.inl ⟨by rfl, ?_⟩) ?_ ?_
      rotate_left
      ·intro w'
       go_simp
       with_reducible rfl
      rotate_left
      ·exact mP
      refine done_ (done_of HT_.out (by kernel_rfl)) ?_
      obtain ⟨hcz53_0, hcz53_1, hcz53_2, hcz53_3, hcz53_4, hcz53_5, hcz53_6, hcz53_7, hcz53_8, hcz53_9, hcz53_10⟩ := bC11 BK302.out
      obtain ⟨hfz53_0, hfz53_1, hfz53_2, hfz53_3, hfz53_4, hfz53_5, hfz53_6, hfz53_7, hfz53_8, hfz53_9, hfz53_10⟩ := bF11 BK302.out
      try go_wp2
      go_loopg [4, 66] k (fun kq v4 v66 w' => ∃ (x4_1 : ByteArray) (x66_1 : Int), v4 = .string x4_1 ∧ v66 = .int .i64 x66_1 ∧ Aside0 (foghornref17_Put.l0 kq x4_1 l0_10 (l0_10.length : Int) x66_1 = some r) ∧ Aside0 (kq ≤ k) ∧ Aside0 (w'.heap[gb302]? = some (.cells #[.int .i64 a0_0, (.slice A0_1 l0_1.length c0_1), .int .i64 a0_2, .int .i64 a0_3, .int .i64 a0_4, .int .i64 a0_5, .int .i64 a0_6, (.slice A0_7 l0_7.length c0_7), .int .i64 a0_8, .int .i64 a0_9, (.slice A0_10 l0_10.length c0_10)] 50 (0, 0))) ∧ Aside0 (Below w.heap.size w w'))
      case atStart => exact ⟨(((t313 ++ t314) ++ t315) ++ t316), (0), (by first | rfl | (simp; done) | (simp [*]; done)), (by first | rfl | (simp; done) | (simp [*]; done)), H', ⟨Nat.le_refl _⟩, ⟨by (with_reducible repeat (first | refine blk_drewN ?_ _ | refine blk_drew ?_ | refine blk_alloc ?_ _)); exact BK302.out⟩, ⟨by repeat (first | (with_reducible first | exact HB.out | apply below_alloc | apply pw_below_drewN | apply below_drew1 | refine below_set ?_ GE302.out) | exact HB.out)⟩⟩
      case round =>
       clear H'
       try clear c1
       try clear c2
       try clear p2
       try clear c4
       try clear c5
       try clear c11
       try clear c11b0
       try clear c11b1
       try clear c14
       try clear c16
       try clear c18
       try clear c20
       try clear c22
       try clear c24
       try clear c29
       try clear c41
       try clear c41b0
       try clear c41b1
       try clear c41b2
       try clear c43
       try clear c43b0
       try clear c43b1
       try clear c43b2
       try clear c45
       try clear c45b0
       try clear c45b1
       try clear c45b2
       try clear hcz47_0
       try clear hcz47_1
       try clear hcz47_10
       try clear hcz47_2
       try clear hcz47_3
       try clear hcz47_4
       try clear hcz47_5
       try clear hcz47_6
       try clear hcz47_7
       try clear hcz47_8
       try clear hcz47_9
       try clear hcz53_0
       try clear hcz53_1
       try clear hcz53_10
       try clear hcz53_2
       try clear hcz53_3
       try clear hcz53_4
       try clear hcz53_5
       try clear hcz53_6
       try clear hcz53_7
       try clear hcz53_8
       try clear hcz53_9
       try clear hfz47_0
       try clear hfz47_1
       try clear hfz47_10
       try clear hfz47_2
       try clear hfz47_3
       try clear hfz47_4
       try clear hfz47_5
       try clear hfz47_6
       try clear hfz47_7
       try clear hfz47_8
       try clear hfz47_9
       try clear hfz53_0
       try clear hfz53_1
       try clear hfz53_10
       try clear hfz53_2
       try clear hfz53_3
       try clear hfz53_4
       try clear hfz53_5
       try clear hfz53_6
       try clear hfz53_7
       try clear hfz53_8
       try clear hfz53_9
       obtain ⟨x4_1, x66_1, rfl, rfl, HA, HK1, BK302, HB⟩ := hrel
       cases gk with
       | zero => exact absurd HA.out (by simp [foghornref17_Put.l0])
       | succ k1 =>
        have H := HA.out
        clear HA
        simp only [foghornref17_Put.l0] at H
        by_cases c54 : x66_1 < (l0_10.length : Int)
        ·rw [if_pos c54] at H
         have c54b0 : decide (x66_1 < (l0_10.length : Int)) = true := decide_eq_true c54
         clear c54
         by_cases c55 : 0 ≤ x66_1
         ·rw [if_pos c55] at H
          have c55b0 : decide (0 ≤ x66_1) = true := decide_eq_true c55
          clear c55
          by_cases c56 : x66_1 < (l0_10.length : Int)
          ·rw [if_pos c56] at H
           have c56b0 : decide (x66_1 < (l0_10.length : Int)) = true := decide_eq_true c56
           clear c56
           replace H := Option.bind_eq_some_iff.mp H
           obtain ⟨t319, A570, H⟩ := H
           have A57 := aA A570
           clear A570
           by_cases c58 : x4_1.size + t319.size ≤ 9223372036854775807
           ·rw [if_pos c58] at H
            have c58b0 := eq_true c58
            have c58b1 := decide_eq_true c58
            try have c58b2 : (9223372036854775807 < x4_1.size + t319.size) = False := eq_false (Nat.not_lt.2 c58)
            replace H := Option.bind_eq_some_iff.mp H
            obtain ⟨t320, A590, H⟩ := H
            have A59 := aA A590
            clear A590
            by_cases c60 : (x4_1 ++ t319).size + t320.size ≤ 9223372036854775807
            ·rw [if_pos c60] at H
             have c60b0 := eq_true c60
             have c60b1 := decide_eq_true c60
             try have c60b2 : (9223372036854775807 < (x4_1 ++ t319).size + t320.size) = False := eq_false (Nat.not_lt.2 c60)
             try have c60b3 : (9223372036854775807 < (x4_1).size + (t319).size + (t320).size) = False := eq_false (by have h_ := c60; simp only [ByteArray.size_append] at h_; omega)
             replace H := Option.bind_eq_some_iff.mp H
             obtain ⟨t321, A610, H⟩ := H
             have A61 := aA A610
             clear A610
             by_cases c62 : ((x4_1 ++ t319) ++ t320).size + t321.size ≤ 9223372036854775807
             ·rw [if_pos c62] at H
              have c62b0 := eq_true c62
              have c62b1 := decide_eq_true c62
              try have c62b2 : (9223372036854775807 < ((x4_1 ++ t319) ++ t320).size + t321.size) = False := eq_false (Nat.not_lt.2 c62)
              try have c62b3 : (9223372036854775807 < (x4_1).size + (t319).size + (t320).size + (t321).size) = False := eq_false (by have h_ := c62; simp only [ByteArray.size_append] at h_; omega)
              have H' := aA H
              clear H
              have p317 : 0 ≤ (x66_1 : Int) := of_decide_eq_true (by first | (with_reducible assumption) | assumption)
              have q317 : x66_1 < (l0_10.length : Int) := of_decide_eq_true (by first | (with_reducible assumption) | assumption)
              obtain ⟨ad317, e317, hx317_0, hx317_1, hx317_2⟩ := at_T35 HR0_10.out x66_1 p317 q317
              cases e317
              replace hx317_0 := (HB.out.cell (World.block_lt_of_cell? w _ hx317_0)).trans hx317_0
              replace hx317_1 := (HB.out.cell (World.block_lt_of_cell? w _ hx317_1)).trans hx317_1
              replace hx317_2 := (HB.out.cell (World.block_lt_of_cell? w _ hx317_2)).trans hx317_2
              replace p317 := eq_true p317
              replace q317 := eq_true q317
              try go_wp2_with (first | ((with_reducible refine gate_dst (N := 6) rfl ?_); refine box_event ?hg (N := 6) ?hd (cs := #[.int .i64 0, .string (⟨#[]⟩ : ByteArray), .string (⟨#[]⟩ : ByteArray)]) (t := 35) ?hr ?_; (case hd => rfl); (case hg => rfl); (case hr => first | (go_simp; done) | (go_simp; rfl)); intro gb318 hg w63 hbox hb; have n0_ := aA (bB BK302.out hb); have n1_ := aA (below_step (mD1 GE302.out) hb); have n2_ := aA (hbox); have n3_ := aA ((bZ hg (mD1 GE302.out))); have n4_ := aA ((bZ hg (mD1 GE302.out))); have n5_ := aA ((bL hg BK302.out)); have n6_ := aA ((bG hg BK302.out)); clear BK302 HB; have BK302 := n0_; have HB := n1_; have BK318 := n2_; have GW318 := n3_; have GE318 := n4_; have NB302_318 := n5_; have NB318_302 := n6_; clear n0_ n1_ n2_ n3_ n4_ n5_ n6_ hb hbox hg; have hnb64 := NB318_302.out; have hnc64 := NB302_318.out; obtain ⟨hcz65_0, hcz65_1, hcz65_2⟩ := bC3 BK318.out; obtain ⟨hfz65_0, hfz65_1, hfz65_2⟩ := bF3 BK318.out))
              have n0_ : Aside0 ((((w63.setCell ⟨gb318, 0, none⟩ (.int .i64 ((rd_T35 l0_10 x66_1).f0))).setCell ⟨gb318, 1, none⟩ (.string ((rd_T35 l0_10 x66_1).f1))).setCell ⟨gb318, 2, none⟩ (.string ((rd_T35 l0_10 x66_1).f2))).heap[gb302]? = some (.cells #[.int .i64 a0_0, .slice A0_1 l0_1.length c0_1, .int .i64 a0_2, .int .i64 a0_3, .int .i64 a0_4, .int .i64 a0_5, .int .i64 a0_6, .slice A0_7 l0_7.length c0_7, .int .i64 a0_8, .int .i64 a0_9, .slice (some ad317) l0_10.length c0_10] 50 (0, 0))) := ⟨by (with_reducible repeat (first | refine blk_drewN ?_ _ | refine blk_drew ?_ | refine blk_alloc ?_ _)); refine blk_far ?_ NB302_318.out _; (with_reducible repeat (first | refine blk_drewN ?_ _ | refine blk_drew ?_ | refine blk_alloc ?_ _)); refine blk_far ?_ NB302_318.out _; (with_reducible repeat (first | refine blk_drewN ?_ _ | refine blk_drew ?_ | refine blk_alloc ?_ _)); refine blk_far ?_ NB302_318.out _; (with_reducible repeat (first | refine blk_drewN ?_ _ | refine blk_drew ?_ | refine blk_alloc ?_ _)); exact BK302.out⟩
              have n1_ : Aside0 ((((w63.setCell ⟨gb318, 0, none⟩ (.int .i64 ((rd_T35 l0_10 x66_1).f0))).setCell ⟨gb318, 1, none⟩ (.string ((rd_T35 l0_10 x66_1).f1))).setCell ⟨gb318, 2, none⟩ (.string ((rd_T35 l0_10 x66_1).f2))).heap[gb318]? = some (.cells #[.int .i64 ((rd_T35 l0_10 x66_1).f0), .string ((rd_T35 l0_10 x66_1).f1), .string ((rd_T35 l0_10 x66_1).f2)] 35 (0, 0))) := ⟨by (with_reducible repeat (first | refine blk_drewN ?_ _ | refine blk_drew ?_ | refine blk_alloc ?_ _)); refine blk_put (cs := #[.int .i64 ((rd_T35 l0_10 x66_1).f0), .string ((rd_T35 l0_10 x66_1).f1), .string (⟨#[]⟩ : ByteArray)]) ?_ 2 _ rfl; (with_reducible repeat (first | refine blk_drewN ?_ _ | refine blk_drew ?_ | refine blk_alloc ?_ _)); refine blk_put (cs := #[.int .i64 ((rd_T35 l0_10 x66_1).f0), .string (⟨#[]⟩ : ByteArray), .string (⟨#[]⟩ : ByteArray)]) ?_ 1 _ rfl; (with_reducible repeat (first | refine blk_drewN ?_ _ | refine blk_drew ?_ | refine blk_alloc ?_ _)); refine blk_put (cs := #[.int .i64 0, .string (⟨#[]⟩ : ByteArray), .string (⟨#[]⟩ : ByteArray)]) ?_ 0 _ rfl; (with_reducible repeat (first | refine blk_drewN ?_ _ | refine blk_drew ?_ | refine blk_alloc ?_ _)); exact BK318.out⟩
              have n2_ : Aside0 (Below w.heap.size w (((w63.setCell ⟨gb318, 0, none⟩ (.int .i64 ((rd_T35 l0_10 x66_1).f0))).setCell ⟨gb318, 1, none⟩ (.string ((rd_T35 l0_10 x66_1).f1))).setCell ⟨gb318, 2, none⟩ (.string ((rd_T35 l0_10 x66_1).f2)))) := ⟨by repeat (first | (with_reducible first | exact HB.out | apply below_alloc | apply pw_below_drewN | apply below_drew1 | refine below_set ?_ GE302.out | refine below_set ?_ GE318.out) | exact HB.out)⟩
              (try clear BK302)
              (try clear BK318)
              (try clear HB)
              generalize (((w63.setCell ⟨gb318, 0, none⟩ (.int .i64 ((rd_T35 l0_10 x66_1).f0))).setCell ⟨gb318, 1, none⟩ (.string ((rd_T35 l0_10 x66_1).f1))).setCell ⟨gb318, 2, none⟩ (.string ((rd_T35 l0_10 x66_1).f2))) = w66 at n0_ n1_ n2_ ⊢
              have BK302 := n0_
              have BK318 := n1_
              have HB := n2_
              clear n0_ n1_ n2_
              have n0_ := aA (blk_drew BK302.out)
              have n1_ := aA (blk_drew BK318.out)
              have n2_ := aA (below_drew1 HB.out)
              clear BK302
              clear BK318
              clear HB
              have BK302 := n0_
              have BK318 := n1_
              have HB := n2_
              clear n0_ n1_ n2_
              refine start_ (n := 14) (S := fun w' => w'.cell? ⟨gb318, 0, none⟩ = some (.int .i64 ((rd_T35 l0_10 x66_1).f0)) ∧ w'.cell? ⟨gb318, 1, none⟩ = some (.string ((rd_T35 l0_10 x66_1).f1)) ∧ w'.cell? ⟨gb318, 2, none⟩ = some (.string ((rd_T35 l0_10 x66_1).f2))) (ds := []) #[false, false, false, false, false, false, false, false, false, false, false, false, false, false] (by kernel_rfl) rfl rfl (bC3 BK318.out) (fun hHeld => ?_); refine with_tabW foghornref17_Put.tab10 foghornref17_Put.bits10 (fun HT_ HW_ => ?_)
              generalize w66.drew = w67 at BK302 BK318 HB hHeld ⊢
              refine pure_ (i := 0) (N := some 70) (v := ?_) (a' := ?_) #[true, false, false, false, false, false, false, false, false, false, false, false, false, false] rfl rfl (any_of HT_.out (by kernel_rfl)) (fun _ _ _ h => h) (Or.inl ⟨by rfl, ?_⟩) ?_ ?_
              rotate_left
              ·intro w'
               go_simp
               with_reducible rfl
              rotate_left
              ·exact mP
              refine pure_ (i := 1) (N := some 71) (v := ?_) (a' := ?_) #[true, true, false, false, false, false, false, false, false, false, false, false, false, false] rfl rfl (any_of HT_.out (by kernel_rfl)) (fun _ _ _ h => h) (Or.inl ⟨by rfl, ?_⟩) ?_ ?_
              rotate_left
              ·intro w'
               go_simp
               with_reducible rfl
              rotate_left
              ·exact mP
              refine pure_ (i := 5) (N := some 75) (v := ?_) (a' := ?_) #[true, true, false, false, false, true, false, false, false, false, false, false, false, false] rfl rfl (any_of HT_.out (by kernel_rfl)) (fun _ _ _ h => h) (Or.inl ⟨by rfl, ?_⟩) ?_ ?_
              rotate_left
              ·intro w'
               go_simp
               with_reducible rfl
              rotate_left
              ·exact mP
              refine pure_ (i := 9) (N := some 79) (v := ?_) (a' := ?_) #[true, true, false, false, false, true, false, false, false, true, false, false, false, false] rfl rfl (any_of HT_.out (by kernel_rfl)) (fun _ _ _ h => h) (Or.inl ⟨by rfl, ?_⟩) ?_ ?_
              rotate_left
              ·intro w'
               go_simp
               with_reducible rfl
              rotate_left
              ·exact mP
              refine take_ (i := 2) (N := some 72) (v := ?_) (a' := ?_) #[true, true, true, false, false, true, false, false, false, true, false, false, false, false] rfl rfl (take_ofW HT_.out HW_.out (by kernel_rfl)) (fun _ _ _ h => h) (Or.inl ⟨by rfl, ?_⟩) hHeld ?_ ?_
              rotate_left
              ·rintro w' ⟨s0, s1, s2⟩
               go_simp
               with_reducible rfl
              rotate_left
              ·exact mP
              refine take_ (i := 6) (N := some 76) (v := ?_) (a' := ?_) #[true, true, true, false, false, true, true, false, false, true, false, false, false, false] rfl rfl (take_ofW HT_.out HW_.out (by kernel_rfl)) (fun _ _ _ h => h) (Or.inl ⟨by rfl, ?_⟩) hHeld ?_ ?_
              rotate_left
              ·rintro w' ⟨s0, s1, s2⟩
               go_simp
               with_reducible rfl
              rotate_left
              ·exact mP
              refine take_ (i := 10) (N := some 80) (v := ?_) (a' := ?_) #[true, true, true, false, false, true, true, false, false, true, true, false, false, false] rfl rfl (take_ofW HT_.out HW_.out (by kernel_rfl)) (fun _ _ _ h => h) (Or.inl ⟨by rfl, ?_⟩) hHeld ?_ ?_
              rotate_left
              ·rintro w' ⟨s0, s1, s2⟩
               go_simp
               with_reducible rfl
              rotate_left
              ·exact mP
              refine one_ (i := 3) (N := some 73) #[true, true, true, true, false, true, true, false, false, true, true, false, false, false] rfl rfl (one_of HT_.out (by kernel_rfl)) (by decide) (fun K hK => ?_)
              refine goes_ Try.func57 (by kernel_rfl) rfl #[.int .i64 ((rd_T35 l0_10 x66_1).f0)] (by rfl) rfl rfl mS ?_
              with_reducible refine (foghornref17_one.calls ((rd_T35 l0_10 x66_1).f0) t319 _ A57.out).mono ?_
              rintro e w68 ⟨rfl, hb⟩
              refine ⟨_, rfl, ?_⟩
              have n0_ := aA (bB BK302.out hb)
              have n1_ := aA (bB BK318.out hb)
              have n2_ := aA (below_step (mD2 GE302.out GE318.out) hb)
              clear BK302
              clear BK318
              clear HB
              have BK302 := n0_
              have BK318 := n1_
              have HB := n2_
              clear n0_ n1_ n2_
              (try clear hb)
              (try clear hb2)
              (try clear hk)
              (try clear hi)
              refine hK.out _ _ (bC3 BK318.out) (fun hHeld => ?_)
              clear hK K
              refine norm_ (a' := ?_) ?_ ?_
              rotate_left
              ·show Act.put _ (some 73) _ = _
               simp only [Act.put, List.setIfInBounds_toArray, List.set_cons_zero, List.set_cons_succ, i64_w, i32_w]
               rfl
              refine pure_ (i := 4) (N := some 74) (v := ?_) (a' := ?_) #[true, true, true, true, true, true, true, false, false, true, true, false, false, false] rfl rfl (any_of HT_.out (by kernel_rfl)) (fun _ _ _ h => h) (Or.inl ⟨by rfl, ?_⟩) ?_ ?_
              rotate_left
              ·intro w'
               go_simp
               with_reducible rfl
              rotate_left
              ·exact mP
              refine one_ (i := 7) (N := some 77) #[true, true, true, true, true, true, true, true, false, true, true, false, false, false] rfl rfl (one_of HT_.out (by kernel_rfl)) (by decide) (fun K hK => ?_)
              refine goes_ Try.func60 (by kernel_rfl) rfl #[.string ((rd_T35 l0_10 x66_1).f1)] (by rfl) rfl rfl mS ?_
              with_reducible refine (foghornref17_text.calls ((rd_T35 l0_10 x66_1).f1) t320 _ A59.out).mono ?_
              rintro e w69 ⟨rfl, hb⟩
              refine ⟨_, rfl, ?_⟩
              have n0_ := aA (bB BK302.out hb)
              have n1_ := aA (bB BK318.out hb)
              have n2_ := aA (below_step (mD2 GE302.out GE318.out) hb)
              clear BK302
              clear BK318
              clear HB
              have BK302 := n0_
              have BK318 := n1_
              have HB := n2_
              clear n0_ n1_ n2_
              (try clear hb)
              (try clear hb2)
              (try clear hk)
              (try clear hi)
              refine hK.out _ _ (bC3 BK318.out) (fun hHeld => ?_)
              clear hK K
              refine norm_ (a' := ?_) ?_ ?_
              rotate_left
              ·show Act.put _ (some 77) _ = _
               simp only [Act.put, List.setIfInBounds_toArray, List.set_cons_zero, List.set_cons_succ, i64_w, i32_w]
               rfl
              refine pure_ (i := 8) (N := some 78) (v := ?_) (a' := ?_) #[true, true, true, true, true, true, true, true, true, true, true, false, false, false] rfl rfl (any_of HT_.out (by kernel_rfl)) (fun _ _ _ h => h) (Or.inl ⟨by rfl, ?_⟩) ?_ ?_
              rotate_left
              ·intro w'
               go_simp
               with_reducible rfl
              rotate_left
              ·exact mP
              refine one_ (i := 11) (N := some 81) #[true, true, true, true, true, true, true, true, true, true, true, true, false, false] rfl rfl (one_of HT_.out (by kernel_rfl)) (by decide) (fun K hK => ?_)
              refine goes_ Try.func60 (by kernel_rfl) rfl #[.string ((rd_T35 l0_10 x66_1).f2)] (by rfl) rfl rfl mS ?_
              with_reducible refine (foghornref17_text.calls ((rd_T35 l0_10 x66_1).f2) t321 _ A61.out).mono ?_
              rintro e w70 ⟨rfl, hb⟩
              refine ⟨_, rfl, ?_⟩
              have n0_ := aA (bB BK302.out hb)
              have n1_ := aA (bB BK318.out hb)
              have n2_ := aA (below_step (mD2 GE302.out GE318.out) hb)
              clear BK302
              clear BK318
              clear HB
              have BK302 := n0_
              have BK318 := n1_
              have HB := n2_
              clear n0_ n1_ n2_
              (try clear hb)
              (try clear hb2)
              (try clear hk)
              (try clear hi)
              refine hK.out _ _ (bC3 BK318.out) (fun hHeld => ?_)
              clear hK K
              refine norm_ (a' := ?_) ?_ ?_
              rotate_left
              ·show Act.put _ (some 81) _ = _
               simp only [Act.put, List.setIfInBounds_toArray, List.set_cons_zero, List.set_cons_succ, i64_w, i32_w]
               rfl
              refine pure_ (i := 12) (N := some 82) (v := ?_) (a' := ?_) #[true, true, true, true, true, true, true, true, true, true, true, true, true, false] rfl rfl (any_of HT_.out (by kernel_rfl)) (fun _ _ _ h => h) (Or.inl ⟨by rfl, ?_⟩) ?_ ?_
              rotate_left
              ·intro w'
               go_simp
               with_reducible rfl
              rotate_left
              ·exact mP
              refine pure_ (i := 13) (N := some 4) (v := ?_) (a' := ?_) #[true, true, true, true, true, true, true, true, true, true, true, true, true, true] rfl rfl (any_of HT_.out (by kernel_rfl)) (fun _ _ _ h => h) (Or.inl ⟨by rfl, ?_⟩) ?_ ?_
              rotate_left
              ·intro w'
               go_simp
               with_reducible rfl
              rotate_left
              ·exact mP
              refine done_ (done_of HT_.out (by kernel_rfl)) ?_
              try go_wp2
              go_roundg k1
              case measure => have := HK1.out; omega
              case rel => exact ⟨(((x4_1 ++ t319) ++ t320) ++ t321), (wrap64 (x66_1 + 1)), (by first | rfl | (simp; done) | (simp [*]; done)), (by first | rfl | (simp; done) | (simp [*]; done)), H', ⟨by have := HK1.out; omega⟩, ⟨by (with_reducible repeat (first | refine blk_drewN ?_ _ | refine blk_drew ?_ | refine blk_alloc ?_ _)); exact BK302.out⟩, ⟨by repeat (first | (with_reducible first | exact HB.out | apply below_alloc | apply pw_below_drewN | apply below_drew1 | refine below_set ?_ GE302.out | refine below_set ?_ GE318.out) | exact HB.out)⟩⟩
             ·rw [if_neg c62] at H
              exact absurd H (by simp)
            ·rw [if_neg c60] at H
             exact absurd H (by simp)
           ·rw [if_neg c58] at H
            exact absurd H (by simp)
          ·rw [if_neg c56] at H
           exact absurd H (by simp)
         ·rw [if_neg c55] at H
          exact absurd H (by simp)
        ·rw [if_neg c54] at H
         have c54b0 : decide (x66_1 < (l0_10.length : Int)) = false := decide_eq_false c54
         clear c54
         obtain rfl := Option.some.inj H
         go_wp2
         go_ret
         exact ⟨by first | rfl | (simp [errW_none, errW_some] <;> rfl) | (simp [*, errW_none, errW_some] <;> rfl), by repeat (first | (with_reducible first | exact HB.out | apply below_alloc | apply pw_below_drewN | apply below_drew1 | refine below_set ?_ GE302.out) | exact HB.out)⟩
     ·rw [if_neg c45] at H
      exact absurd H (by simp)
    ·rw [if_neg c43] at H
     exact absurd H (by simp)
   ·rw [if_neg c41] at H
    exact absurd H (by simp)
end Go.Proofs.YtndgollcganhmaaQ.P
namespace Go.Proofs.YtndgollcganhmaaQ.P
open Go.RowKit Go.Proofs.YtndgollcganhmaaW.PrintWords Go.Proofs.YtndgollcganhmaaW.PrintLast Go.Proofs.YtndgollcganhmaaW.PrintMore
attribute [local go_sem] max2_int min2_int max_two min_two max_three min_three max_four min_four
def foghornlaw17_CodePuts.j0 : Nat → ByteArray → Int → Bool → Int → List (S41) → Int → Int → Int → Int → Int → List (S41) → Int → Int → List (S35) → Option (Bool)
 | 0, _, _, _, _, _, _, _, _, _, _, _, _, _, _ => none
 | k + 1, x3, x4, x20, x323000, x323001, x323002, x323003, x323004, x323005, x323006, x323007, x323008, x323009, x323010 => if x20 = true then (some false) else ((foghornref17_Right.f k x323000 x323001 x323002 x323003 x323004 x323005 x323006 x323007 x323008 x323009 x323010).bind fun t345 => (if t345 = true then (if x4 = 0 then ((foghornref17_Put.f k x323000 x323001 x323002 x323003 x323004 x323005 x323006 x323007 x323008 x323009 x323010).bind fun t346 => (some (x3.toList == t346.toList))) else (some false)) else (if x4 = 1 then (some (x3.toList == ([] : List UInt8))) else (some false))))
def foghornlaw17_CodePuts.f (k : Nat) (a0_0 : Int) (l0_1 : List (S41)) (a0_2 : Int) (a0_3 : Int) (a0_4 : Int) (a0_5 : Int) (a0_6 : Int) (l0_7 : List (S41)) (a0_8 : Int) (a0_9 : Int) (l0_10 : List (S35)) : Option (Bool) := (foghornlaw17_few.f k a0_0 l0_1 a0_2 a0_3 a0_4 a0_5 a0_6 l0_7 a0_8 a0_9 l0_10).bind fun bt323 => ((code_Put.f bt323.1 bt323.2.1 bt323.2.2.1 bt323.2.2.2.1 bt323.2.2.2.2.1 bt323.2.2.2.2.2.1 bt323.2.2.2.2.2.2.1 bt323.2.2.2.2.2.2.2.1 bt323.2.2.2.2.2.2.2.2.1 bt323.2.2.2.2.2.2.2.2.2.1 bt323.2.2.2.2.2.2.2.2.2.2).bind fun bt340 => ((code_Right.f bt323.1 bt323.2.1 bt323.2.2.1 bt323.2.2.2.1 bt323.2.2.2.2.1 bt323.2.2.2.2.2.1 bt323.2.2.2.2.2.2.1 bt323.2.2.2.2.2.2.2.1 bt323.2.2.2.2.2.2.2.2.1 bt323.2.2.2.2.2.2.2.2.2.1 bt323.2.2.2.2.2.2.2.2.2.2).bind fun t342 => ((foghornref17_Right.f k bt323.1 bt323.2.1 bt323.2.2.1 bt323.2.2.2.1 bt323.2.2.2.2.1 bt323.2.2.2.2.2.1 bt323.2.2.2.2.2.2.1 bt323.2.2.2.2.2.2.2.1 bt323.2.2.2.2.2.2.2.2.1 bt323.2.2.2.2.2.2.2.2.2.1 bt323.2.2.2.2.2.2.2.2.2.2).bind fun t343 => (if (t342 != t343) = true then (foghornlaw17_CodePuts.j0 k bt340.1 bt340.2 true bt323.1 bt323.2.1 bt323.2.2.1 bt323.2.2.2.1 bt323.2.2.2.2.1 bt323.2.2.2.2.2.1 bt323.2.2.2.2.2.2.1 bt323.2.2.2.2.2.2.2.1 bt323.2.2.2.2.2.2.2.2.1 bt323.2.2.2.2.2.2.2.2.2.1 bt323.2.2.2.2.2.2.2.2.2.2) else ((foghornlaw17_alive.f).bind fun t344 => (foghornlaw17_CodePuts.j0 k bt340.1 bt340.2 (!t344) bt323.1 bt323.2.1 bt323.2.2.1 bt323.2.2.2.1 bt323.2.2.2.2.1 bt323.2.2.2.2.2.1 bt323.2.2.2.2.2.2.1 bt323.2.2.2.2.2.2.2.1 bt323.2.2.2.2.2.2.2.2.1 bt323.2.2.2.2.2.2.2.2.2.1 bt323.2.2.2.2.2.2.2.2.2.2))))))
def foghornlaw17_CodePuts.T3 : Bool × List (List Nat × List Nat) := (true, [([], []), ([0], [0]), ([], []), ([2, 1], [2]), ([1, 3], [1, 3]), ([4, 3], [4]), ([5, 5], [5]), ([6, 5], [5, 6]), ([5, 7], [5, 7])])
def foghornlaw17_CodePuts.B3 : List Nat := [0, 1, 0, 7, 15, 31, 63, 127, 255]
theorem foghornlaw17_CodePuts.tab3 : rtab .any (opsOf Try.f6 3) = foghornlaw17_CodePuts.T3 := by kernel_rfl
theorem foghornlaw17_CodePuts.bits3 : waitsOk foghornlaw17_CodePuts.T3.2 foghornlaw17_CodePuts.B3 = true := by kernel_rfl
set_option maxHeartbeats 8000000 in
set_option maxRecDepth 100000 in
theorem foghornlaw17_CodePuts.calls (k : Nat) (a0_0 : Int) (A0_1 : Option Addr) (c0_1 : Nat) (l0_1 : List (S41)) (a0_2 : Int) (a0_3 : Int) (a0_4 : Int) (a0_5 : Int) (a0_6 : Int) (A0_7 : Option Addr) (c0_7 : Nat) (l0_7 : List (S41)) (a0_8 : Int) (a0_9 : Int) (A0_10 : Option Addr) (c0_10 : Nat) (l0_10 : List (S35)) (r : Bool) (w : World) (hr0_1 : Kd.C k41 w A0_1 l0_1.length l0_1) (hc0_1 : l0_1.length ≤ c0_1) (hr0_7 : Kd.C k41 w A0_7 l0_7.length l0_7) (hc0_7 : l0_7.length ≤ c0_7) (hr0_10 : Kd.C k35 w A0_10 l0_10.length l0_10) (hc0_10 : l0_10.length ≤ c0_10) (h : foghornlaw17_CodePuts.f k a0_0 l0_1 a0_2 a0_3 a0_4 a0_5 a0_6 l0_7 a0_8 a0_9 l0_10 = some r) :
  Calls Try.prog 6 #[.agg #[.int .i64 a0_0, .slice A0_1 l0_1.length c0_1, .int .i64 a0_2, .int .i64 a0_3, .int .i64 a0_4, .int .i64 a0_5, .int .i64 a0_6, .slice A0_7 l0_7.length c0_7, .int .i64 a0_8, .int .i64 a0_9, .slice A0_10 l0_10.length c0_10]] w fun e w' => e = .returned (.bool r) ∧ Below w.heap.size w w' := by
 have hu50 := Try.underlying50
 have HR0_1 := aA hr0_1
 have HC0_1 := aA hc0_1
 clear hr0_1 hc0_1
 have HR0_7 := aA hr0_7
 have HC0_7 := aA hc0_7
 clear hr0_7 hc0_7
 have HR0_10 := aA hr0_10
 have HC0_10 := aA hc0_10
 clear hr0_10 hc0_10
 have HB := aA (Below.refl w.heap.size w)
 have H : ((foghornlaw17_few.f k a0_0 l0_1 a0_2 a0_3 a0_4 a0_5 a0_6 l0_7 a0_8 a0_9 l0_10).bind fun bt323 => ((code_Put.f bt323.1 bt323.2.1 bt323.2.2.1 bt323.2.2.2.1 bt323.2.2.2.2.1 bt323.2.2.2.2.2.1 bt323.2.2.2.2.2.2.1 bt323.2.2.2.2.2.2.2.1 bt323.2.2.2.2.2.2.2.2.1 bt323.2.2.2.2.2.2.2.2.2.1 bt323.2.2.2.2.2.2.2.2.2.2).bind fun bt340 => ((code_Right.f bt323.1 bt323.2.1 bt323.2.2.1 bt323.2.2.2.1 bt323.2.2.2.2.1 bt323.2.2.2.2.2.1 bt323.2.2.2.2.2.2.1 bt323.2.2.2.2.2.2.2.1 bt323.2.2.2.2.2.2.2.2.1 bt323.2.2.2.2.2.2.2.2.2.1 bt323.2.2.2.2.2.2.2.2.2.2).bind fun t342 => ((foghornref17_Right.f k bt323.1 bt323.2.1 bt323.2.2.1 bt323.2.2.2.1 bt323.2.2.2.2.1 bt323.2.2.2.2.2.1 bt323.2.2.2.2.2.2.1 bt323.2.2.2.2.2.2.2.1 bt323.2.2.2.2.2.2.2.2.1 bt323.2.2.2.2.2.2.2.2.2.1 bt323.2.2.2.2.2.2.2.2.2.2).bind fun t343 => (if (t342 != t343) = true then (foghornlaw17_CodePuts.j0 k bt340.1 bt340.2 true bt323.1 bt323.2.1 bt323.2.2.1 bt323.2.2.2.1 bt323.2.2.2.2.1 bt323.2.2.2.2.2.1 bt323.2.2.2.2.2.2.1 bt323.2.2.2.2.2.2.2.1 bt323.2.2.2.2.2.2.2.2.1 bt323.2.2.2.2.2.2.2.2.2.1 bt323.2.2.2.2.2.2.2.2.2.2) else ((foghornlaw17_alive.f).bind fun t344 => (foghornlaw17_CodePuts.j0 k bt340.1 bt340.2 (!t344) bt323.1 bt323.2.1 bt323.2.2.1 bt323.2.2.2.1 bt323.2.2.2.2.1 bt323.2.2.2.2.2.1 bt323.2.2.2.2.2.2.1 bt323.2.2.2.2.2.2.2.1 bt323.2.2.2.2.2.2.2.2.1 bt323.2.2.2.2.2.2.2.2.2.1 bt323.2.2.2.2.2.2.2.2.2.2))))))) = some r := h
 clear h
 replace H := Option.bind_eq_some_iff.mp H
 obtain ⟨⟨t323, t324, t327, t328, t329, t330, t331, t332, t335, t336, t337⟩, A20, H⟩ := H
 have A2 := aA A20
 clear A20
 replace H := Option.bind_eq_some_iff.mp H
 obtain ⟨⟨t340, t341⟩, A30, H⟩ := H
 have A3 := aA A30
 clear A30
 have HC4 := aA H
 clear H
 go_enter Try.func6, Try.ntmps6
 go_upto_region 3 with (first | ((with_reducible refine gate_dst (N := 1) rfl ?_); refine box_event ?hg (N := 1) ?hd (cs := #[.int .i64 a0_0, .slice A0_1 l0_1.length c0_1, .int .i64 a0_2, .int .i64 a0_3, .int .i64 a0_4, .int .i64 a0_5, .int .i64 a0_6, .slice A0_7 l0_7.length c0_7, .int .i64 a0_8, .int .i64 a0_9, .slice A0_10 l0_10.length c0_10]) (t := 50) ?hr ?_; (case hd => rfl); (case hg => rfl); (case hr => first | (go_simp; done) | (go_simp; rfl)); intro gb322 hg w5 hbox hb; have n0_ := aA (below_step mB hb); have n1_ := aA (hbox); have n2_ := aA ((bZ hg mB)); have n3_ := aA ((bZ hg mB)); clear HB; have HB := n0_; have BK322 := n1_; have GW322 := n2_; have GE322 := n3_; clear n0_ n1_ n2_ n3_ hb hbox hg; obtain ⟨hcz6_0, hcz6_1, hcz6_2, hcz6_3, hcz6_4, hcz6_5, hcz6_6, hcz6_7, hcz6_8, hcz6_9, hcz6_10⟩ := bC11 BK322.out; obtain ⟨hfz6_0, hfz6_1, hfz6_2, hfz6_3, hfz6_4, hfz6_5, hfz6_6, hfz6_7, hfz6_8, hfz6_9, hfz6_10⟩ := bF11 BK322.out) | ((with_reducible refine gate_callee (f := 24) rfl ?_); refine goesL_ (some 6) rfl rfl Try.func24 (by kernel_rfl) rfl #[.agg #[.int .i64 a0_0, .slice A0_1 l0_1.length c0_1, .int .i64 a0_2, .int .i64 a0_3, .int .i64 a0_4, .int .i64 a0_5, .int .i64 a0_6, .slice A0_7 l0_7.length c0_7, .int .i64 a0_8, .int .i64 a0_9, .slice A0_10 l0_10.length c0_10]] rfl mS ?_; (with_reducible refine (foghornlaw17_few.calls k a0_0 _ _ l0_1 a0_2 a0_3 a0_4 a0_5 a0_6 _ _ l0_7 a0_8 a0_9 _ _ l0_10 t323 t324 t327 t328 t329 t330 t331 t332 t335 t336 t337 _ ?side1 ?side2 ?side3 ?side4 ?side5 ?side6 A2.out).mono ?_); (case side1 => exact mC ((Kd.C_below HR0_1.out HB.out))); (case side2 => exact HC0_1.out); (case side3 => exact mC ((Kd.C_below HR0_7.out HB.out))); (case side4 => exact HC0_7.out); (case side5 => exact mC ((Kd.C_below HR0_10.out HB.out))); (case side6 => exact HC0_10.out); rintro e w7 ⟨v325, v333, v338, rfl, ho0, ho1, ho2, hb⟩; refine ⟨_, rfl, ?_⟩; have n0_ := aA (Kd.R_lower ho0 (below_size (mD1 GE322.out))); have n1_ := aA (Kd.R_lower ho1 (below_size (mD1 GE322.out))); have n2_ := aA (Kd.R_lower ho2 (below_size (mD1 GE322.out))); have n3_ := aA (bB BK322.out hb); have n4_ := aA (below_step (mD1 GE322.out) hb); clear BK322 HB; have HO326 := n0_; have HO334 := n1_; have HO339 := n2_; have BK322 := n3_; have HB := n4_; clear n0_ n1_ n2_ n3_ n4_; (try clear hb); (try clear hb2); (try clear hk); (try clear hi); (try clear ho0); (try clear ho1); (try clear ho2); obtain ⟨hcz8_0, hcz8_1, hcz8_2, hcz8_3, hcz8_4, hcz8_5, hcz8_6, hcz8_7, hcz8_8, hcz8_9, hcz8_10⟩ := bC11 BK322.out; obtain ⟨hfz8_0, hfz8_1, hfz8_2, hfz8_3, hfz8_4, hfz8_5, hfz8_6, hfz8_7, hfz8_8, hfz8_9, hfz8_10⟩ := bF11 BK322.out; obtain ⟨Ao9, co9, eo9⟩ := Kd.R_slice HO326.out; subst eo9; obtain ⟨Ao10, co10, eo10⟩ := Kd.R_slice HO334.out; subst eo10; obtain ⟨Ao11, co11, eo11⟩ := Kd.R_slice HO339.out; subst eo11) | ((with_reducible refine gate_callee (f := 25) rfl ?_); refine goesL_ (some 9) rfl rfl Try.func25 (by kernel_rfl) rfl #[.agg #[.int .i64 t323, .slice Ao9 t324.length co9, .int .i64 t327, .int .i64 t328, .int .i64 t329, .int .i64 t330, .int .i64 t331, .slice Ao10 t332.length co10, .int .i64 t335, .int .i64 t336, .slice Ao11 t337.length co11]] rfl mS ?_; (with_reducible refine (code_Put.calls t323 _ _ t324 t327 t328 t329 t330 t331 _ _ t332 t335 t336 _ _ t337 t340 t341 _ ?side1 ?side2 ?side3 ?side4 ?side5 ?side6 A3.out).mono ?_); (case side1 => refine (Kd.R_reads' (e := 41) (base := w.heap.size) (ok := fun k_ => some k_ ≠ (.slice Ao10 t332.length co10 : Value).ownBlock) (n := t324.length) (c := co9) ?_).2.2; exact (by (with_reducible repeat (first | apply Kd.R_alloc | apply Kd.R_drewN | apply Kd.R_drew)); exact (Kd.R_mono (rF 10 (rF 9 (rF 8 (rF 7 (rF 6 (rF 5 (rF 4 (rF 3 (rF 2 (rF 1 (rF 0 (Kd.R_types HO326.out BK322.out (by decide))))))))))))) (fun _ h_ => h_.1)))); (case side2 => exact (Kd.R_reads' HO326.out).2.1); (case side3 => refine (Kd.R_reads' (e := 41) (base := w.heap.size) (ok := fun k_ => some k_ ≠ (.slice Ao9 t324.length co9 : Value).ownBlock) (n := t332.length) (c := co10) ?_).2.2; exact (by (with_reducible repeat (first | apply Kd.R_alloc | apply Kd.R_drewN | apply Kd.R_drew)); exact (Kd.R_mono (rF 10 (rF 9 (rF 8 (rF 7 (rF 6 (rF 5 (rF 4 (rF 3 (rF 2 (rF 1 (rF 0 (Kd.R_types HO334.out BK322.out (by decide))))))))))))) (fun _ h_ => h_.1)))); (case side4 => exact (Kd.R_reads' HO334.out).2.1); (case side5 => refine (Kd.R_reads' (e := 35) (base := w.heap.size) (ok := fun k_ => True) (n := t337.length) (c := co11) ?_).2.2; exact (by (with_reducible repeat (first | apply Kd.R_alloc | apply Kd.R_drewN | apply Kd.R_drew)); exact (Kd.R_mono (rF 10 (rF 9 (rF 8 (rF 7 (rF 6 (rF 5 (rF 4 (rF 3 (rF 2 (rF 1 (rF 0 (Kd.R_types HO339.out BK322.out (by decide))))))))))))) (fun _ h_ => h_.1)))); (case side6 => exact (Kd.R_reads' HO339.out).2.1); rintro e w12 ⟨rfl, hb⟩; refine ⟨_, rfl, ?_⟩; have n0_ := aA (Kd.R_below (by (with_reducible repeat (first | apply Kd.R_alloc | apply Kd.R_drewN | apply Kd.R_drew)); exact (Kd.R_mono (rF 10 (rF 9 (rF 8 (rF 7 (rF 6 (rF 5 (rF 4 (rF 3 (rF 2 (rF 1 (rF 0 (Kd.R_types HO326.out BK322.out (by decide))))))))))))) (fun _ h_ => h_.1))) hb); have n1_ := aA (Kd.R_below (by (with_reducible repeat (first | apply Kd.R_alloc | apply Kd.R_drewN | apply Kd.R_drew)); exact (Kd.R_mono (rF 10 (rF 9 (rF 8 (rF 7 (rF 6 (rF 5 (rF 4 (rF 3 (rF 2 (rF 1 (rF 0 (Kd.R_types HO334.out BK322.out (by decide))))))))))))) (fun _ h_ => h_.1))) hb); have n2_ := aA (Kd.R_below (by (with_reducible repeat (first | apply Kd.R_alloc | apply Kd.R_drewN | apply Kd.R_drew)); exact (Kd.R_mono (rF 10 (rF 9 (rF 8 (rF 7 (rF 6 (rF 5 (rF 4 (rF 3 (rF 2 (rF 1 (rF 0 (Kd.R_types HO339.out BK322.out (by decide))))))))))))) (fun _ h_ => h_.1))) hb); have n3_ := aA (blk_below (g := gb322) (o := .cells #[.int .i64 t323, .slice Ao9 t324.length co9, .int .i64 t327, .int .i64 t328, .int .i64 t329, .int .i64 t330, .int .i64 t331, .slice Ao10 t332.length co10, .int .i64 t335, .int .i64 t336, .slice Ao11 t337.length co11] 50 (0, 0)) (by (with_reducible repeat (first | refine blk_drewN ?_ _ | refine blk_drew ?_ | refine blk_alloc ?_ _)); have h_ := BK322.out; exact pK 10 (pK 9 (pK 8 (pK 7 (pK 6 (pK 5 (pK 4 (pK 3 (pK 2 (pK 1 (pK 0 (h_)))))))))))) hb); have n4_ := aA (below_step (mD1 GE322.out) hb); clear HO326 HO334 HO339 BK322 HB; have HO326 := n0_; have HO334 := n1_; have HO339 := n2_; have BK322 := n3_; have HB := n4_; clear n0_ n1_ n2_ n3_ n4_; (try clear hb); (try clear hb2); (try clear hk); (try clear hi)))
 (try simp only [Act.put, List.setIfInBounds_toArray, List.set_cons_zero, List.set_cons_succ])
 go_cut [20] (fun v20 wc => ∃ (kq : Nat) (x20_3 : Bool), v20 = .bool x20_3 ∧ Aside0 (foghornlaw17_CodePuts.j0 kq t340 t341 x20_3 t323 t324 t327 t328 t329 t330 t331 t332 t335 t336 t337 = some r) ∧ Aside0 (kq ≤ k) ∧ Aside0 (Kd.R k41 41 wc w.heap.size (fun k_ => some k_ ≠ ((.slice Ao10 t332.length co10) : Value).ownBlock) (.slice Ao9 t324.length co9) t324) ∧ Aside0 (Kd.R k41 41 wc w.heap.size (fun k_ => some k_ ≠ ((.slice Ao9 t324.length co9) : Value).ownBlock) (.slice Ao10 t332.length co10) t332) ∧ Aside0 (Kd.R k35 35 wc w.heap.size (fun _ => True) (.slice Ao11 t337.length co11) t337) ∧ Aside0 (wc.heap[gb322]? = some (.cells #[.int .i64 t323, (.slice Ao9 t324.length co9), .int .i64 t327, .int .i64 t328, .int .i64 t329, .int .i64 t330, .int .i64 t331, (.slice Ao10 t332.length co10), .int .i64 t335, .int .i64 t336, (.slice Ao11 t337.length co11)] 50 (0, 0))) ∧ Aside0 (Below w.heap.size w wc))
 case first =>
  have H := HC4.out
  clear HC4
  replace H := Option.bind_eq_some_iff.mp H
  obtain ⟨t342, A130, H⟩ := H
  have A13 := aA A130
  clear A130
  replace H := Option.bind_eq_some_iff.mp H
  obtain ⟨t343, A140, H⟩ := H
  have A14 := aA A140
  clear A140
  by_cases c15 : (t342 != t343) = true
  ·rw [if_pos c15] at H
   have c15b0 : (t342 != t343) = true := c15
   (try (have c15b1 : decide (t342 = t343) = false := by simpa using c15))
   (try (have c15b2 : (t342 == t343) = false := by simpa using c15))
   (try (have c15b3 : ¬ (t342 = t343) := by simpa using c15))
   clear c15
   (first | rw [c15b0] | (simp only [i64_w, i32_w]; rw [c15b0]) | skip)
   have H' := aA H
   clear H
   try go_wp2
   have n0_ := aA (Kd.R_drew HO326.out)
   have n1_ := aA (Kd.R_drew HO334.out)
   have n2_ := aA (Kd.R_drew HO339.out)
   have n3_ := aA (blk_drew BK322.out)
   have n4_ := aA (below_drew1 HB.out)
   clear HO326
   clear HO334
   clear HO339
   clear BK322
   clear HB
   have HO326 := n0_
   have HO334 := n1_
   have HO339 := n2_
   have BK322 := n3_
   have HB := n4_
   clear n0_ n1_ n2_ n3_ n4_
   refine start_ (n := 9) (S := fun w' => w'.cell? ⟨gb322, 0, none⟩ = some (.int .i64 t323) ∧ w'.cell? ⟨gb322, 1, none⟩ = some (.slice Ao9 t324.length co9) ∧ w'.cell? ⟨gb322, 2, none⟩ = some (.int .i64 t327) ∧ w'.cell? ⟨gb322, 3, none⟩ = some (.int .i64 t328) ∧ w'.cell? ⟨gb322, 4, none⟩ = some (.int .i64 t329) ∧ w'.cell? ⟨gb322, 5, none⟩ = some (.int .i64 t330) ∧ w'.cell? ⟨gb322, 6, none⟩ = some (.int .i64 t331) ∧ w'.cell? ⟨gb322, 7, none⟩ = some (.slice Ao10 t332.length co10) ∧ w'.cell? ⟨gb322, 8, none⟩ = some (.int .i64 t335) ∧ w'.cell? ⟨gb322, 9, none⟩ = some (.int .i64 t336) ∧ w'.cell? ⟨gb322, 10, none⟩ = some (.slice Ao11 t337.length co11)) (ds := []) #[false, false, false, false, false, false, false, false, false] (by kernel_rfl) rfl rfl (bC11 BK322.out) (fun hHeld => ?_); refine with_tabW foghornlaw17_CodePuts.tab3 foghornlaw17_CodePuts.bits3 (fun HT_ HW_ => ?_)
   generalize w12.drew = w16 at HO326 HO334 HO339 BK322 HB hHeld ⊢
   refine take_ (i := 0) (N := some 12) (v := ?_) (a' := ?_) #[true, false, false, false, false, false, false, false, false] rfl rfl (take_ofW HT_.out HW_.out (by kernel_rfl)) (fun _ _ _ h => h) (Or.inl ⟨by rfl, ?_⟩) hHeld ?_ ?_
   rotate_left
   ·rintro w' ⟨s0, s1, s2, s3, s4, s5, s6, s7, s8, s9, s10⟩
    go_simp
    with_reducible rfl
   rotate_left
   ·exact mP
   refine take_ (i := 2) (N := some 14) (v := ?_) (a' := ?_) #[true, false, true, false, false, false, false, false, false] rfl rfl (take_ofW HT_.out HW_.out (by kernel_rfl)) (fun _ _ _ h => h) (Or.inl ⟨by rfl, ?_⟩) hHeld ?_ ?_
   rotate_left
   ·rintro w' ⟨s0, s1, s2, s3, s4, s5, s6, s7, s8, s9, s10⟩
    go_simp
    with_reducible rfl
   rotate_left
   ·exact mP
   refine one_ (i := 1) (N := some 13) #[true, true, true, false, false, false, false, false, false] rfl rfl (one_of HT_.out (by kernel_rfl)) (by decide) (fun K hK => ?_)
   refine goes_ Try.func26 (by kernel_rfl) rfl #[.agg #[.int .i64 t323, .slice Ao9 t324.length co9, .int .i64 t327, .int .i64 t328, .int .i64 t329, .int .i64 t330, .int .i64 t331, .slice Ao10 t332.length co10, .int .i64 t335, .int .i64 t336, .slice Ao11 t337.length co11]] (by rfl) rfl rfl mS ?_
   with_reducible refine (code_Right.calls t323 _ _ t324 t327 t328 t329 t330 t331 _ _ t332 t335 t336 _ _ t337 t342 _ ?side1 ?side2 ?side3 ?side4 ?side5 ?side6 A13.out).mono ?_
   (case side1 => exact mC ((Kd.R_reads' HO326.out).2.2))
   (case side2 => exact (Kd.R_reads' HO326.out).2.1)
   (case side3 => exact mC ((Kd.R_reads' HO334.out).2.2))
   (case side4 => exact (Kd.R_reads' HO334.out).2.1)
   (case side5 => exact mC ((Kd.R_reads' HO339.out).2.2))
   (case side6 => exact (Kd.R_reads' HO339.out).2.1)
   rintro e w17 ⟨rfl, hb⟩
   refine ⟨_, rfl, ?_⟩
   have n0_ := aA (Kd.R_below (mR HO326.out) hb)
   have n1_ := aA (Kd.R_below (mR HO334.out) hb)
   have n2_ := aA (Kd.R_below (mR HO339.out) hb)
   have n3_ := aA (bB BK322.out hb)
   have n4_ := aA (below_step (mD1 GE322.out) hb)
   clear HO326
   clear HO334
   clear HO339
   clear BK322
   clear HB
   have HO326 := n0_
   have HO334 := n1_
   have HO339 := n2_
   have BK322 := n3_
   have HB := n4_
   clear n0_ n1_ n2_ n3_ n4_
   (try clear hb)
   (try clear hb2)
   (try clear hk)
   (try clear hi)
   refine hK.out _ _ (bC11 BK322.out) (fun hHeld => ?_)
   clear hK K
   refine norm_ (a' := ?_) ?_ ?_
   rotate_left
   ·show Act.put _ (some 13) _ = _
    simp only [Act.put, List.setIfInBounds_toArray, List.set_cons_zero, List.set_cons_succ, i64_w, i32_w]
    rfl
   refine one_ (i := 3) (N := some 15) #[true, true, true, true, false, false, false, false, false] rfl rfl (one_of HT_.out (by kernel_rfl)) (by decide) (fun K hK => ?_)
   refine goes_ Try.func27 (by kernel_rfl) rfl #[.agg #[.int .i64 t323, .slice Ao9 t324.length co9, .int .i64 t327, .int .i64 t328, .int .i64 t329, .int .i64 t330, .int .i64 t331, .slice Ao10 t332.length co10, .int .i64 t335, .int .i64 t336, .slice Ao11 t337.length co11]] (by rfl) rfl rfl mS ?_
   with_reducible refine (foghornref17_Right.calls k t323 _ _ t324 t327 t328 t329 t330 t331 _ _ t332 t335 t336 _ _ t337 t343 _ ?side1 ?side2 ?side3 ?side4 ?side5 ?side6 A14.out).mono ?_
   (case side1 => exact mC ((Kd.R_reads' HO326.out).2.2))
   (case side2 => exact (Kd.R_reads' HO326.out).2.1)
   (case side3 => exact mC ((Kd.R_reads' HO334.out).2.2))
   (case side4 => exact (Kd.R_reads' HO334.out).2.1)
   (case side5 => exact mC ((Kd.R_reads' HO339.out).2.2))
   (case side6 => exact (Kd.R_reads' HO339.out).2.1)
   rintro e w18 ⟨rfl, hb⟩
   refine ⟨_, rfl, ?_⟩
   have n0_ := aA (Kd.R_below (mR HO326.out) hb)
   have n1_ := aA (Kd.R_below (mR HO334.out) hb)
   have n2_ := aA (Kd.R_below (mR HO339.out) hb)
   have n3_ := aA (bB BK322.out hb)
   have n4_ := aA (below_step (mD1 GE322.out) hb)
   clear HO326
   clear HO334
   clear HO339
   clear BK322
   clear HB
   have HO326 := n0_
   have HO334 := n1_
   have HO339 := n2_
   have BK322 := n3_
   have HB := n4_
   clear n0_ n1_ n2_ n3_ n4_
   (try clear hb)
   (try clear hb2)
   (try clear hk)
   (try clear hi)
   refine hK.out _ _ (bC11 BK322.out) (fun hHeld => ?_)
   clear hK K
   refine norm_ (a' := ?_) ?_ ?_
   rotate_left
   ·show Act.put _ (some 15) _ = _
    simp only [Act.put, List.setIfInBounds_toArray, List.set_cons_zero, List.set_cons_succ, i64_w, i32_w]
    rfl
   refine pure_ (i := 4) (N := some 16) (v := ?_) (a' := ?_) #[true, true, true, true, true, false, false, false, false] rfl rfl (any_of HT_.out (by kernel_rfl)) (fun _ _ _ h => h) (Or.inl ⟨by rfl, ?_⟩) ?_ ?_
   rotate_left
   ·intro w'
    go_simp
    with_reducible rfl
   rotate_left
   ·exact mP
   refine pure_ (i := 5) (N := some 17) (v := ?_) (a' := ?_) #[true, true, true, true, true, true, false, false, false] rfl rfl (any_of HT_.out (by kernel_rfl)) (fun _ _ _ h => h) (Or.inl ⟨by rfl, ?_⟩) ?_ ?_
   rotate_left
   ·intro w'
    go_simp
    with_reducible rfl
   rotate_left
   ·exact mP
   refine pure_ (i := 6) (N := some 18) (v := undef) (a' := ?_) #[true, true, true, true, true, true, true, false, false] rfl rfl (any_of HT_.out (by kernel_rfl)) (fun _ _ _ h => h) (Or.inr ⟨by rfl, rfl⟩) ?_ ?_
   rotate_left
   ·exact mP
   refine pure_ (i := 7) (N := some 19) (v := undef) (a' := ?_) #[true, true, true, true, true, true, true, true, false] rfl rfl (any_of HT_.out (by kernel_rfl)) (fun _ _ _ h => h) (Or.inr ⟨by rfl, rfl⟩) ?_ ?_
   rotate_left
   ·exact mP
   refine pure_ (i := 8) (N := some 20) (v := ?_) (a' := ?_) #[true, true, true, true, true, true, true, true, true] rfl rfl (any_of HT_.out (by kernel_rfl)) (fun _ _ _ h => h) (Or.inl ⟨by rfl, ?_⟩) ?_ ?_
   rotate_left
   ·intro w'
    go_simp
    with_reducible rfl
   rotate_left
   ·exact mP
   refine done_ (done_of HT_.out (by kernel_rfl)) ?_
   try go_wp2
   go_meet
   case rel => exact ⟨_, (true), (by first | rfl | (simp; done) | (simp [*]; done)), H', ⟨by first | omega | exact Nat.le_refl _⟩, ⟨by (with_reducible repeat (first | apply Kd.R_alloc | apply Kd.R_drewN | apply Kd.R_drew)); exact HO326.out⟩, ⟨by (with_reducible repeat (first | apply Kd.R_alloc | apply Kd.R_drewN | apply Kd.R_drew)); exact HO334.out⟩, ⟨by (with_reducible repeat (first | apply Kd.R_alloc | apply Kd.R_drewN | apply Kd.R_drew)); exact HO339.out⟩, ⟨by (with_reducible repeat (first | refine blk_drewN ?_ _ | refine blk_drew ?_ | refine blk_alloc ?_ _)); exact BK322.out⟩, ⟨by repeat (first | (with_reducible first | exact HB.out | apply below_alloc | apply pw_below_drewN | apply below_drew1 | refine below_set ?_ GE322.out) | exact HB.out)⟩⟩
  ·rw [if_neg c15] at H
   have c15b0 : (t342 != t343) = false := by simpa using c15
   (try (have c15b1 : decide (t342 = t343) = true := by simpa using c15))
   (try (have c15b2 : (t342 == t343) = true := by simpa using c15))
   clear c15
   (first | rw [c15b0] | (simp only [i64_w, i32_w]; rw [c15b0]) | skip)
   replace H := Option.bind_eq_some_iff.mp H
   obtain ⟨t344, A190, H⟩ := H
   have A19 := aA A190
   clear A190
   have H' := aA H
   clear H
   try go_wp2
   have n0_ := aA (Kd.R_drew HO326.out)
   have n1_ := aA (Kd.R_drew HO334.out)
   have n2_ := aA (Kd.R_drew HO339.out)
   have n3_ := aA (blk_drew BK322.out)
   have n4_ := aA (below_drew1 HB.out)
   clear HO326
   clear HO334
   clear HO339
   clear BK322
   clear HB
   have HO326 := n0_
   have HO334 := n1_
   have HO339 := n2_
   have BK322 := n3_
   have HB := n4_
   clear n0_ n1_ n2_ n3_ n4_
   refine start_ (n := 9) (S := fun w' => w'.cell? ⟨gb322, 0, none⟩ = some (.int .i64 t323) ∧ w'.cell? ⟨gb322, 1, none⟩ = some (.slice Ao9 t324.length co9) ∧ w'.cell? ⟨gb322, 2, none⟩ = some (.int .i64 t327) ∧ w'.cell? ⟨gb322, 3, none⟩ = some (.int .i64 t328) ∧ w'.cell? ⟨gb322, 4, none⟩ = some (.int .i64 t329) ∧ w'.cell? ⟨gb322, 5, none⟩ = some (.int .i64 t330) ∧ w'.cell? ⟨gb322, 6, none⟩ = some (.int .i64 t331) ∧ w'.cell? ⟨gb322, 7, none⟩ = some (.slice Ao10 t332.length co10) ∧ w'.cell? ⟨gb322, 8, none⟩ = some (.int .i64 t335) ∧ w'.cell? ⟨gb322, 9, none⟩ = some (.int .i64 t336) ∧ w'.cell? ⟨gb322, 10, none⟩ = some (.slice Ao11 t337.length co11)) (ds := []) #[false, false, false, false, false, false, false, false, false] (by kernel_rfl) rfl rfl (bC11 BK322.out) (fun hHeld => ?_); refine with_tabW foghornlaw17_CodePuts.tab3 foghornlaw17_CodePuts.bits3 (fun HT_ HW_ => ?_)
   generalize w12.drew = w20 at HO326 HO334 HO339 BK322 HB hHeld ⊢
   refine take_ (i := 0) (N := some 12) (v := ?_) (a' := ?_) #[true, false, false, false, false, false, false, false, false] rfl rfl (take_ofW HT_.out HW_.out (by kernel_rfl)) (fun _ _ _ h => h) (Or.inl ⟨by rfl, ?_⟩) hHeld ?_ ?_
   rotate_left
   ·rintro w' ⟨s0, s1, s2, s3, s4, s5, s6, s7, s8, s9, s10⟩
    go_simp
    with_reducible rfl
   rotate_left
   ·exact mP
   refine take_ (i := 2) (N := some 14) (v := ?_) (a' := ?_) #[true, false, true, false, false, false, false, false, false] rfl rfl (take_ofW HT_.out HW_.out (by kernel_rfl)) (fun _ _ _ h => h) (Or.inl ⟨by rfl, ?_⟩) hHeld ?_ ?_
   rotate_left
   ·rintro w' ⟨s0, s1, s2, s3, s4, s5, s6, s7, s8, s9, s10⟩
    go_simp
    with_reducible rfl
   rotate_left
   ·exact mP
   refine one_ (i := 1) (N := some 13) #[true, true, true, false, false, false, false, false, false] rfl rfl (one_of HT_.out (by kernel_rfl)) (by decide) (fun K hK => ?_)
   refine goes_ Try.func26 (by kernel_rfl) rfl #[.agg #[.int .i64 t323, .slice Ao9 t324.length co9, .int .i64 t327, .int .i64 t328, .int .i64 t329, .int .i64 t330, .int .i64 t331, .slice Ao10 t332.length co10, .int .i64 t335, .int .i64 t336, .slice Ao11 t337.length co11]] (by rfl) rfl rfl mS ?_
   with_reducible refine (code_Right.calls t323 _ _ t324 t327 t328 t329 t330 t331 _ _ t332 t335 t336 _ _ t337 t342 _ ?side1 ?side2 ?side3 ?side4 ?side5 ?side6 A13.out).mono ?_
   (case side1 => exact mC ((Kd.R_reads' HO326.out).2.2))
   (case side2 => exact (Kd.R_reads' HO326.out).2.1)
   (case side3 => exact mC ((Kd.R_reads' HO334.out).2.2))
   (case side4 => exact (Kd.R_reads' HO334.out).2.1)
   (case side5 => exact mC ((Kd.R_reads' HO339.out).2.2))
   (case side6 => exact (Kd.R_reads' HO339.out).2.1)
   rintro e w21 ⟨rfl, hb⟩
   refine ⟨_, rfl, ?_⟩
   have n0_ := aA (Kd.R_below (mR HO326.out) hb)
   have n1_ := aA (Kd.R_below (mR HO334.out) hb)
   have n2_ := aA (Kd.R_below (mR HO339.out) hb)
   have n3_ := aA (bB BK322.out hb)
   have n4_ := aA (below_step (mD1 GE322.out) hb)
   clear HO326
   clear HO334
   clear HO339
   clear BK322
   clear HB
   have HO326 := n0_
   have HO334 := n1_
   have HO339 := n2_
   have BK322 := n3_
   have HB := n4_
   clear n0_ n1_ n2_ n3_ n4_
   (try clear hb)
   (try clear hb2)
   (try clear hk)
   (try clear hi)
   refine hK.out _ _ (bC11 BK322.out) (fun hHeld => ?_)
   clear hK K
   refine norm_ (a' := ?_) ?_ ?_
   rotate_left
   ·show Act.put _ (some 13) _ = _
    simp only [Act.put, List.setIfInBounds_toArray, List.set_cons_zero, List.set_cons_succ, i64_w, i32_w]
    rfl
   refine one_ (i := 3) (N := some 15) #[true, true, true, true, false, false, false, false, false] rfl rfl (one_of HT_.out (by kernel_rfl)) (by decide) (fun K hK => ?_)
   refine goes_ Try.func27 (by kernel_rfl) rfl #[.agg #[.int .i64 t323, .slice Ao9 t324.length co9, .int .i64 t327, .int .i64 t328, .int .i64 t329, .int .i64 t330, .int .i64 t331, .slice Ao10 t332.length co10, .int .i64 t335, .int .i64 t336, .slice Ao11 t337.length co11]] (by rfl) rfl rfl mS ?_
   with_reducible refine (foghornref17_Right.calls k t323 _ _ t324 t327 t328 t329 t330 t331 _ _ t332 t335 t336 _ _ t337 t343 _ ?side1 ?side2 ?side3 ?side4 ?side5 ?side6 A14.out).mono ?_
   (case side1 => exact mC ((Kd.R_reads' HO326.out).2.2))
   (case side2 => exact (Kd.R_reads' HO326.out).2.1)
   (case side3 => exact mC ((Kd.R_reads' HO334.out).2.2))
   (case side4 => exact (Kd.R_reads' HO334.out).2.1)
   (case side5 => exact mC ((Kd.R_reads' HO339.out).2.2))
   (case side6 => exact (Kd.R_reads' HO339.out).2.1)
   rintro e w22 ⟨rfl, hb⟩
   refine ⟨_, rfl, ?_⟩
   have n0_ := aA (Kd.R_below (mR HO326.out) hb)
   have n1_ := aA (Kd.R_below (mR HO334.out) hb)
   have n2_ := aA (Kd.R_below (mR HO339.out) hb)
   have n3_ := aA (bB BK322.out hb)
   have n4_ := aA (below_step (mD1 GE322.out) hb)
   clear HO326
   clear HO334
   clear HO339
   clear BK322
   clear HB
   have HO326 := n0_
   have HO334 := n1_
   have HO339 := n2_
   have BK322 := n3_
   have HB := n4_
   clear n0_ n1_ n2_ n3_ n4_
   (try clear hb)
   (try clear hb2)
   (try clear hk)
   (try clear hi)
   refine hK.out _ _ (bC11 BK322.out) (fun hHeld => ?_)
   clear hK K
   refine norm_ (a' := ?_) ?_ ?_
   rotate_left
   ·show Act.put _ (some 15) _ = _
    simp only [Act.put, List.setIfInBounds_toArray, List.set_cons_zero, List.set_cons_succ, i64_w, i32_w]
    rfl
   refine pure_ (i := 4) (N := some 16) (v := ?_) (a' := ?_) #[true, true, true, true, true, false, false, false, false] rfl rfl (any_of HT_.out (by kernel_rfl)) (fun _ _ _ h => h) (Or.inl ⟨by rfl, ?_⟩) ?_ ?_
   rotate_left
   ·intro w'
    go_simp
    with_reducible rfl
   rotate_left
   ·exact mP
   refine pure_ (i := 5) (N := some 17) (v := ?_) (a' := ?_) #[true, true, true, true, true, true, false, false, false] rfl rfl (any_of HT_.out (by kernel_rfl)) (fun _ _ _ h => h) (Or.inl ⟨by rfl, ?_⟩) ?_ ?_
   rotate_left
   ·intro w'
    go_simp
    with_reducible rfl
   rotate_left
   ·exact mP
   refine one_ (i := 6) (N := some 18) #[true, true, true, true, true, true, true, false, false] rfl rfl (one_of HT_.out (by kernel_rfl)) (by decide) (fun K hK => ?_)
   refine goes_ Try.func28 (by kernel_rfl) rfl #[] (by rfl) rfl rfl mS ?_
   with_reducible refine (foghornlaw17_alive.calls  t344 _ A19.out).mono ?_
   rintro e w23 ⟨rfl, hb⟩
   refine ⟨_, rfl, ?_⟩
   have n0_ := aA (Kd.R_below (mR HO326.out) hb)
   have n1_ := aA (Kd.R_below (mR HO334.out) hb)
   have n2_ := aA (Kd.R_below (mR HO339.out) hb)
   have n3_ := aA (bB BK322.out hb)
   have n4_ := aA (below_step (mD1 GE322.out) hb)
   clear HO326
   clear HO334
   clear HO339
   clear BK322
   clear HB
   have HO326 := n0_
   have HO334 := n1_
   have HO339 := n2_
   have BK322 := n3_
   have HB := n4_
   clear n0_ n1_ n2_ n3_ n4_
   (try clear hb)
   (try clear hb2)
   (try clear hk)
   (try clear hi)
   refine hK.out _ _ (bC11 BK322.out) (fun hHeld => ?_)
   clear hK K
   refine norm_ (a' := ?_) ?_ ?_
   rotate_left
   ·show Act.put _ (some 18) _ = _
    simp only [Act.put, List.setIfInBounds_toArray, List.set_cons_zero, List.set_cons_succ, i64_w, i32_w]
    rfl
   refine pure_ (i := 7) (N := some 19) (v := ?_) (a' := ?_) #[true, true, true, true, true, true, true, true, false] rfl rfl (any_of HT_.out (by kernel_rfl)) (fun _ _ _ h => h) (Or.inl ⟨by rfl, ?_⟩) ?_ ?_
   rotate_left
   ·intro w'
    go_simp
    with_reducible rfl
   rotate_left
   ·exact mP
   refine pure_ (i := 8) (N := some 20) (v := ?_) (a' := ?_) #[true, true, true, true, true, true, true, true, true] rfl rfl (any_of HT_.out (by kernel_rfl)) (fun _ _ _ h => h) (Or.inl ⟨by rfl, ?_⟩) ?_ ?_
   rotate_left
   ·intro w'
    go_simp
    with_reducible rfl
   rotate_left
   ·exact mP
   refine done_ (done_of HT_.out (by kernel_rfl)) ?_
   try go_wp2
   go_meet
   case rel => exact ⟨_, (!t344), (by first | rfl | (simp; done) | (simp [*]; done)), H', ⟨by first | omega | exact Nat.le_refl _⟩, ⟨by (with_reducible repeat (first | apply Kd.R_alloc | apply Kd.R_drewN | apply Kd.R_drew)); exact HO326.out⟩, ⟨by (with_reducible repeat (first | apply Kd.R_alloc | apply Kd.R_drewN | apply Kd.R_drew)); exact HO334.out⟩, ⟨by (with_reducible repeat (first | apply Kd.R_alloc | apply Kd.R_drewN | apply Kd.R_drew)); exact HO339.out⟩, ⟨by (with_reducible repeat (first | refine blk_drewN ?_ _ | refine blk_drew ?_ | refine blk_alloc ?_ _)); exact BK322.out⟩, ⟨by repeat (first | (with_reducible first | exact HB.out | apply below_alloc | apply pw_below_drewN | apply below_drew1 | refine below_set ?_ GE322.out) | exact HB.out)⟩⟩
 case rest =>
  clear HC4
  try clear c1
  try clear c2
  try clear p2
  try clear c6
  try clear c15
  try clear c15b0
  try clear c15b1
  try clear c15b2
  try clear hcz6_0
  try clear hcz6_1
  try clear hcz6_10
  try clear hcz6_2
  try clear hcz6_3
  try clear hcz6_4
  try clear hcz6_5
  try clear hcz6_6
  try clear hcz6_7
  try clear hcz6_8
  try clear hcz6_9
  try clear hcz8_0
  try clear hcz8_1
  try clear hcz8_10
  try clear hcz8_2
  try clear hcz8_3
  try clear hcz8_4
  try clear hcz8_5
  try clear hcz8_6
  try clear hcz8_7
  try clear hcz8_8
  try clear hcz8_9
  try clear hfz6_0
  try clear hfz6_1
  try clear hfz6_10
  try clear hfz6_2
  try clear hfz6_3
  try clear hfz6_4
  try clear hfz6_5
  try clear hfz6_6
  try clear hfz6_7
  try clear hfz6_8
  try clear hfz6_9
  try clear hfz8_0
  try clear hfz8_1
  try clear hfz8_10
  try clear hfz8_2
  try clear hfz8_3
  try clear hfz8_4
  try clear hfz8_5
  try clear hfz8_6
  try clear hfz8_7
  try clear hfz8_8
  try clear hfz8_9
  obtain ⟨kq, x20_3, rfl, HA, HJ3, HO_323001, HO_323007, HO_323010, BK322, HB⟩ := hcut
  cases kq with
  | zero => exact absurd HA.out (by simp [foghornlaw17_CodePuts.j0])
  | succ kj3 =>
   have H := HA.out
   clear HA
   simp only [foghornlaw17_CodePuts.j0] at H
   by_cases c24 : x20_3 = true
   ·subst c24
    have H1 : (some false) = some r := by rw [if_pos rfl] at H; exact H
    clear H
    have H := H1
    clear H1
    obtain rfl := Option.some.inj H
    go_wp2
    go_ret
    exact ⟨by first | rfl | (simp [errW_none, errW_some] <;> rfl) | (simp [*, errW_none, errW_some] <;> rfl), by repeat (first | (with_reducible first | exact HB.out | apply below_alloc | apply pw_below_drewN | apply below_drew1 | refine below_set ?_ GE322.out) | exact HB.out)⟩
   ·replace c24 := Bool.eq_false_iff.mpr c24
    subst c24
    have H1 : ((foghornref17_Right.f kj3 t323 t324 t327 t328 t329 t330 t331 t332 t335 t336 t337).bind fun t345 => (if t345 = true then (if t341 = 0 then ((foghornref17_Put.f kj3 t323 t324 t327 t328 t329 t330 t331 t332 t335 t336 t337).bind fun t346 => (some (t340.toList == t346.toList))) else (some false)) else (if t341 = 1 then (some (t340.toList == ([] : List UInt8))) else (some false)))) = some r := by rw [if_neg (show ¬ (false = true) by decide)] at H; exact H
    clear H
    have H := H1
    clear H1
    replace H := Option.bind_eq_some_iff.mp H
    obtain ⟨t345, A250, H⟩ := H
    have A25 := aA A250
    clear A250
    by_cases c26 : t345 = true
    ·subst c26
     have H1 : (if t341 = 0 then ((foghornref17_Put.f kj3 t323 t324 t327 t328 t329 t330 t331 t332 t335 t336 t337).bind fun t346 => (some (t340.toList == t346.toList))) else (some false)) = some r := by rw [if_pos rfl] at H; exact H
     clear H
     have H := H1
     clear H1
     by_cases c27 : t341 = 0
     ·rw [if_pos c27] at H
      have c27b0 : (t341 == 0) = true := beq_iff_eq.mpr c27
      have c27b1 : (t341 != 0) = false := bne_eq_false_iff_eq.mpr c27
      clear c27
      replace H := Option.bind_eq_some_iff.mp H
      obtain ⟨t346, A280, H⟩ := H
      have A28 := aA A280
      clear A280
      obtain rfl := Option.some.inj H
      obtain ⟨hcz29_0, hcz29_1, hcz29_2, hcz29_3, hcz29_4, hcz29_5, hcz29_6, hcz29_7, hcz29_8, hcz29_9, hcz29_10⟩ := bC11 BK322.out
      obtain ⟨hfz29_0, hfz29_1, hfz29_2, hfz29_3, hfz29_4, hfz29_5, hfz29_6, hfz29_7, hfz29_8, hfz29_9, hfz29_10⟩ := bF11 BK322.out
      go_wp2_with (first | ((with_reducible refine gate_callee (f := 27) rfl ?_); refine goesL_ (some 22) rfl rfl Try.func27 (by kernel_rfl) rfl #[.agg #[.int .i64 t323, .slice Ao9 t324.length co9, .int .i64 t327, .int .i64 t328, .int .i64 t329, .int .i64 t330, .int .i64 t331, .slice Ao10 t332.length co10, .int .i64 t335, .int .i64 t336, .slice Ao11 t337.length co11]] rfl mS ?_; (with_reducible refine (foghornref17_Right.calls kj3 t323 _ _ t324 t327 t328 t329 t330 t331 _ _ t332 t335 t336 _ _ t337 true _ ?side1 ?side2 ?side3 ?side4 ?side5 ?side6 A25.out).mono ?_); (case side1 => exact mC ((Kd.R_reads' HO_323001.out).2.2)); (case side2 => exact (Kd.R_reads' HO_323001.out).2.1); (case side3 => exact mC ((Kd.R_reads' HO_323007.out).2.2)); (case side4 => exact (Kd.R_reads' HO_323007.out).2.1); (case side5 => exact mC ((Kd.R_reads' HO_323010.out).2.2)); (case side6 => exact (Kd.R_reads' HO_323010.out).2.1); rintro e w30 ⟨rfl, hb⟩; refine ⟨_, rfl, ?_⟩; have n0_ := aA (Kd.R_below (mR HO_323001.out) hb); have n1_ := aA (Kd.R_below (mR HO_323007.out) hb); have n2_ := aA (Kd.R_below (mR HO_323010.out) hb); have n3_ := aA (bB BK322.out hb); have n4_ := aA (below_step (mD1 GE322.out) hb); clear HO_323001 HO_323007 HO_323010 BK322 HB; have HO_323001 := n0_; have HO_323007 := n1_; have HO_323010 := n2_; have BK322 := n3_; have HB := n4_; clear n0_ n1_ n2_ n3_ n4_; (try clear hb); (try clear hb2); (try clear hk); (try clear hi); obtain ⟨hcz31_0, hcz31_1, hcz31_2, hcz31_3, hcz31_4, hcz31_5, hcz31_6, hcz31_7, hcz31_8, hcz31_9, hcz31_10⟩ := bC11 BK322.out; obtain ⟨hfz31_0, hfz31_1, hfz31_2, hfz31_3, hfz31_4, hfz31_5, hfz31_6, hfz31_7, hfz31_8, hfz31_9, hfz31_10⟩ := bF11 BK322.out) | (go_at_call 29; (with_reducible refine (foghornref17_Put.calls kj3 t323 _ _ t324 t327 t328 t329 t330 t331 _ _ t332 t335 t336 _ _ t337 t346 _ ?side1 ?side2 ?side3 ?side4 ?side5 ?side6 A28.out).mono ?_); (case side1 => exact mC ((Kd.R_reads' HO_323001.out).2.2)); (case side2 => exact (Kd.R_reads' HO_323001.out).2.1); (case side3 => exact mC ((Kd.R_reads' HO_323007.out).2.2)); (case side4 => exact (Kd.R_reads' HO_323007.out).2.1); (case side5 => exact mC ((Kd.R_reads' HO_323010.out).2.2)); (case side6 => exact (Kd.R_reads' HO_323010.out).2.1); rintro e w32 ⟨rfl, hb⟩; have n0_ := aA (Kd.R_below (mR HO_323001.out) hb); have n1_ := aA (Kd.R_below (mR HO_323007.out) hb); have n2_ := aA (Kd.R_below (mR HO_323010.out) hb); have n3_ := aA (bB BK322.out hb); have n4_ := aA (below_step (mD1 GE322.out) hb); clear HO_323001 HO_323007 HO_323010 BK322 HB; have HO_323001 := n0_; have HO_323007 := n1_; have HO_323010 := n2_; have BK322 := n3_; have HB := n4_; clear n0_ n1_ n2_ n3_ n4_; (try clear hb); (try clear hb2); (try clear hk); (try clear hi)))
      go_ret
      exact ⟨by first | rfl | (simp [errW_none, errW_some] <;> rfl) | (simp [*, errW_none, errW_some] <;> rfl), by repeat (first | (with_reducible first | exact HB.out | apply below_alloc | apply pw_below_drewN | apply below_drew1 | refine below_set ?_ GE322.out) | exact HB.out)⟩
     ·rw [if_neg c27] at H
      have c27b0 : (t341 == 0) = false := beq_eq_false_iff_ne.mpr c27
      have c27b1 : (t341 != 0) = true := bne_iff_ne.mpr c27
      obtain rfl := Option.some.inj H
      obtain ⟨hcz33_0, hcz33_1, hcz33_2, hcz33_3, hcz33_4, hcz33_5, hcz33_6, hcz33_7, hcz33_8, hcz33_9, hcz33_10⟩ := bC11 BK322.out
      obtain ⟨hfz33_0, hfz33_1, hfz33_2, hfz33_3, hfz33_4, hfz33_5, hfz33_6, hfz33_7, hfz33_8, hfz33_9, hfz33_10⟩ := bF11 BK322.out
      go_wp2_with (first | ((with_reducible refine gate_callee (f := 27) rfl ?_); refine goesL_ (some 22) rfl rfl Try.func27 (by kernel_rfl) rfl #[.agg #[.int .i64 t323, .slice Ao9 t324.length co9, .int .i64 t327, .int .i64 t328, .int .i64 t329, .int .i64 t330, .int .i64 t331, .slice Ao10 t332.length co10, .int .i64 t335, .int .i64 t336, .slice Ao11 t337.length co11]] rfl mS ?_; (with_reducible refine (foghornref17_Right.calls kj3 t323 _ _ t324 t327 t328 t329 t330 t331 _ _ t332 t335 t336 _ _ t337 true _ ?side1 ?side2 ?side3 ?side4 ?side5 ?side6 A25.out).mono ?_); (case side1 => exact mC ((Kd.R_reads' HO_323001.out).2.2)); (case side2 => exact (Kd.R_reads' HO_323001.out).2.1); (case side3 => exact mC ((Kd.R_reads' HO_323007.out).2.2)); (case side4 => exact (Kd.R_reads' HO_323007.out).2.1); (case side5 => exact mC ((Kd.R_reads' HO_323010.out).2.2)); (case side6 => exact (Kd.R_reads' HO_323010.out).2.1); rintro e w34 ⟨rfl, hb⟩; refine ⟨_, rfl, ?_⟩; have n0_ := aA (Kd.R_below (mR HO_323001.out) hb); have n1_ := aA (Kd.R_below (mR HO_323007.out) hb); have n2_ := aA (Kd.R_below (mR HO_323010.out) hb); have n3_ := aA (bB BK322.out hb); have n4_ := aA (below_step (mD1 GE322.out) hb); clear HO_323001 HO_323007 HO_323010 BK322 HB; have HO_323001 := n0_; have HO_323007 := n1_; have HO_323010 := n2_; have BK322 := n3_; have HB := n4_; clear n0_ n1_ n2_ n3_ n4_; (try clear hb); (try clear hb2); (try clear hk); (try clear hi)))
      go_ret
      exact ⟨by first | rfl | (simp [errW_none, errW_some] <;> rfl) | (simp [*, errW_none, errW_some] <;> rfl), by repeat (first | (with_reducible first | exact HB.out | apply below_alloc | apply pw_below_drewN | apply below_drew1 | refine below_set ?_ GE322.out) | exact HB.out)⟩
    ·replace c26 := Bool.eq_false_iff.mpr c26
     subst c26
     have H1 : (if t341 = 1 then (some (t340.toList == ([] : List UInt8))) else (some false)) = some r := by rw [if_neg (show ¬ (false = true) by decide)] at H; exact H
     clear H
     have H := H1
     clear H1
     by_cases c35 : t341 = 1
     ·rw [if_pos c35] at H
      have c35b0 : (t341 == 1) = true := beq_iff_eq.mpr c35
      have c35b1 : (t341 != 1) = false := bne_eq_false_iff_eq.mpr c35
      clear c35
      obtain rfl := Option.some.inj H
      obtain ⟨hcz36_0, hcz36_1, hcz36_2, hcz36_3, hcz36_4, hcz36_5, hcz36_6, hcz36_7, hcz36_8, hcz36_9, hcz36_10⟩ := bC11 BK322.out
      obtain ⟨hfz36_0, hfz36_1, hfz36_2, hfz36_3, hfz36_4, hfz36_5, hfz36_6, hfz36_7, hfz36_8, hfz36_9, hfz36_10⟩ := bF11 BK322.out
      go_wp2_with (first | ((with_reducible refine gate_callee (f := 27) rfl ?_); refine goesL_ (some 22) rfl rfl Try.func27 (by kernel_rfl) rfl #[.agg #[.int .i64 t323, .slice Ao9 t324.length co9, .int .i64 t327, .int .i64 t328, .int .i64 t329, .int .i64 t330, .int .i64 t331, .slice Ao10 t332.length co10, .int .i64 t335, .int .i64 t336, .slice Ao11 t337.length co11]] rfl mS ?_; (with_reducible refine (foghornref17_Right.calls kj3 t323 _ _ t324 t327 t328 t329 t330 t331 _ _ t332 t335 t336 _ _ t337 false _ ?side1 ?side2 ?side3 ?side4 ?side5 ?side6 A25.out).mono ?_); (case side1 => exact mC ((Kd.R_reads' HO_323001.out).2.2)); (case side2 => exact (Kd.R_reads' HO_323001.out).2.1); (case side3 => exact mC ((Kd.R_reads' HO_323007.out).2.2)); (case side4 => exact (Kd.R_reads' HO_323007.out).2.1); (case side5 => exact mC ((Kd.R_reads' HO_323010.out).2.2)); (case side6 => exact (Kd.R_reads' HO_323010.out).2.1); rintro e w37 ⟨rfl, hb⟩; refine ⟨_, rfl, ?_⟩; have n0_ := aA (Kd.R_below (mR HO_323001.out) hb); have n1_ := aA (Kd.R_below (mR HO_323007.out) hb); have n2_ := aA (Kd.R_below (mR HO_323010.out) hb); have n3_ := aA (bB BK322.out hb); have n4_ := aA (below_step (mD1 GE322.out) hb); clear HO_323001 HO_323007 HO_323010 BK322 HB; have HO_323001 := n0_; have HO_323007 := n1_; have HO_323010 := n2_; have BK322 := n3_; have HB := n4_; clear n0_ n1_ n2_ n3_ n4_; (try clear hb); (try clear hb2); (try clear hk); (try clear hi)))
      go_ret
      exact ⟨by first | rfl | (simp [errW_none, errW_some] <;> rfl) | (simp [*, errW_none, errW_some] <;> rfl), by repeat (first | (with_reducible first | exact HB.out | apply below_alloc | apply pw_below_drewN | apply below_drew1 | refine below_set ?_ GE322.out) | exact HB.out)⟩
     ·rw [if_neg c35] at H
      have c35b0 : (t341 == 1) = false := beq_eq_false_iff_ne.mpr c35
      have c35b1 : (t341 != 1) = true := bne_iff_ne.mpr c35
      obtain rfl := Option.some.inj H
      obtain ⟨hcz38_0, hcz38_1, hcz38_2, hcz38_3, hcz38_4, hcz38_5, hcz38_6, hcz38_7, hcz38_8, hcz38_9, hcz38_10⟩ := bC11 BK322.out
      obtain ⟨hfz38_0, hfz38_1, hfz38_2, hfz38_3, hfz38_4, hfz38_5, hfz38_6, hfz38_7, hfz38_8, hfz38_9, hfz38_10⟩ := bF11 BK322.out
      go_wp2_with (first | ((with_reducible refine gate_callee (f := 27) rfl ?_); refine goesL_ (some 22) rfl rfl Try.func27 (by kernel_rfl) rfl #[.agg #[.int .i64 t323, .slice Ao9 t324.length co9, .int .i64 t327, .int .i64 t328, .int .i64 t329, .int .i64 t330, .int .i64 t331, .slice Ao10 t332.length co10, .int .i64 t335, .int .i64 t336, .slice Ao11 t337.length co11]] rfl mS ?_; (with_reducible refine (foghornref17_Right.calls kj3 t323 _ _ t324 t327 t328 t329 t330 t331 _ _ t332 t335 t336 _ _ t337 false _ ?side1 ?side2 ?side3 ?side4 ?side5 ?side6 A25.out).mono ?_); (case side1 => exact mC ((Kd.R_reads' HO_323001.out).2.2)); (case side2 => exact (Kd.R_reads' HO_323001.out).2.1); (case side3 => exact mC ((Kd.R_reads' HO_323007.out).2.2)); (case side4 => exact (Kd.R_reads' HO_323007.out).2.1); (case side5 => exact mC ((Kd.R_reads' HO_323010.out).2.2)); (case side6 => exact (Kd.R_reads' HO_323010.out).2.1); rintro e w39 ⟨rfl, hb⟩; refine ⟨_, rfl, ?_⟩; have n0_ := aA (Kd.R_below (mR HO_323001.out) hb); have n1_ := aA (Kd.R_below (mR HO_323007.out) hb); have n2_ := aA (Kd.R_below (mR HO_323010.out) hb); have n3_ := aA (bB BK322.out hb); have n4_ := aA (below_step (mD1 GE322.out) hb); clear HO_323001 HO_323007 HO_323010 BK322 HB; have HO_323001 := n0_; have HO_323007 := n1_; have HO_323010 := n2_; have BK322 := n3_; have HB := n4_; clear n0_ n1_ n2_ n3_ n4_; (try clear hb); (try clear hb2); (try clear hk); (try clear hi)))
      go_ret
      exact ⟨by first | rfl | (simp [errW_none, errW_some] <;> rfl) | (simp [*, errW_none, errW_some] <;> rfl), by repeat (first | (with_reducible first | exact HB.out | apply below_alloc | apply pw_below_drewN | apply below_drew1 | refine below_set ?_ GE322.out) | exact HB.out)⟩
end Go.Proofs.YtndgollcganhmaaQ.P
namespace Go.Proofs.Ytndgollcganhmaa
open Go.RowKit Go.Proofs.YtndgollcganhmaaW.PrintWords Go.Proofs.YtndgollcganhmaaW.PrintMore
theorem w64 {x : Int} (h0 : -9223372036854775808 ≤ x) (h1 : x ≤ 9223372036854775807) : wrap64 x = x := by unfold wrap64; omega
theorem w64s {i : Nat} (h : i < 9223372036854775807) : wrap64 ((i : Int) + 1) = ((i + 1 : Nat) : Int) := by rw [w64 (by omega) (by omega)]; omega
theorem getD_cast {α : Type} {z : α} {xs : List α} {i : Nat} (h : i < xs.length) : xs.getD (i : Int).toNat z = xs[i] := by
  rw [List.getD_eq_getElem?_getD, Int.toNat_natCast, List.getElem?_eq_getElem h]
  rfl
theorem drop_cons {α : Type} {xs : List α} {i : Nat} (h : i < xs.length) : xs.drop i = xs[i] :: xs.drop (i + 1) := List.drop_eq_getElem_cons h
theorem drop_end {α : Type} {xs : List α} {i : Nat} (h : xs.length ≤ i) : xs.drop i = [] := List.drop_eq_nil_of_le h
theorem mn_eq (a b : Int) : mn a b = min a b := by unfold mn; omega
def cutB (n : Nat) (x : ByteArray) : ByteArray := x.extract 0 n
theorem cutB_size (n : Nat) (x : ByteArray) : (cutB n x).size = min n x.size := by
  unfold cutB
  rw [ByteArray.size_extract]
  omega
theorem cutB_mn (n : Nat) (m : Int) (x : ByteArray) (hm : m = n) : x.extract 0 (mn (x.size : Int) m).toNat = cutB n x := by
  subst hm
  unfold cutB
  rw [mn_eq]
  apply ByteArray.ext
  rw [ByteArray.data_extract, ByteArray.data_extract]
  rcases Nat.le_total x.size n with h | h
  · rw [show (min (x.size : Int) n).toNat = x.size by omega]
    rw [Array.extract_eq_self_of_le (show x.data.size ≤ x.size from Nat.le_refl _), Array.extract_eq_self_of_le (show x.data.size ≤ n from h)]
  · rw [show (min (x.size : Int) n).toNat = n by omega]
theorem bool_bne_self (b : Bool) : (b != b) = false := by cases b <;> rfl
theorem take_mn {α : Type} (n : Nat) (m : Int) (xs : List α) (hm : m = n) : xs.take (mn (xs.length : Int) m).toNat = xs.take n := by
  subst hm
  rw [mn_eq]
  rcases Nat.le_total xs.length n with h | h
  · rw [List.take_of_length_le (by omega), List.take_of_length_le h]
  · rw [show (min (xs.length : Int) n).toNat = n by omega]
end Go.Proofs.Ytndgollcganhmaa
namespace Go.Proofs.YtndgollcganhmaaQ.P
open Go.RowKit Go.Proofs.YtndgollcganhmaaW.PrintWords Go.Proofs.Ytndgollcganhmaa
def numsB (rt pl tr : Int) : Bool := decide (0 ≤ rt) && decide (rt < 4) && decide (0 ≤ pl) && decide (pl < 4) && decide (0 ≤ tr) && decide (tr ≤ 99)
def dutyB (r : Rc) : Bool := numsB r.rt r.pl r.tr && labsB r.l1 && tickB r.due && decide (1 ≤ r.st) && decide (r.st ≤ 3)
def noDutyB (r : Rc) : Bool := decide (r.l1 = []) && decide (r.rt = 0) && decide (r.pl = 0) && decide (r.tr = 0) && decide (r.due = 0) && decide (r.st = 0)
def noHushB (r : Rc) : Bool := decide (r.fr = 0) && decide (r.tt = 0) && decide (r.l10 = [])
def Rc.okB (r : Rc) : Bool :=
  if r.k = 1 then dutyB r && decide (r.l7 = []) && noHushB r else if r.k = 2 then labsB r.l7 && noDutyB r && noHushB r else if r.k = 3 then hushB r.fr r.tt r.l10 && noDutyB r && decide (r.l7 = []) else false
def Rc.sz (r : Rc) : Prop := LabsOk r.l1 ∧ LabsOk r.l7 ∧ MatsOk r.l10
theorem labsOkB_of {l : List Lab} (h : LabsOk l) : labsOkB (l.map ofLab) = true := by
  simp only [labsOkB, List.all_eq_true, List.mem_map]
  rintro x ⟨y, hy, rfl⟩
  have := h y hy
  simp only [labOkB, ofLab, Bool.and_eq_true, decide_eq_true_eq]
  exact ⟨decide_eq_true this.1, decide_eq_true this.2⟩
theorem matsOkB_of {l : List Mat} (h : MatsOk l) : matsOkB (l.map ofMat) = true := by
  simp only [matsOkB, List.all_eq_true, List.mem_map]
  rintro x ⟨y, hy, rfl⟩
  have := h y hy
  simp only [matOkB, ofMat, Bool.and_eq_true, decide_eq_true_eq]
  exact ⟨decide_eq_true this.1, decide_eq_true this.2⟩
theorem labRight_f {l : List Lab} (h : LabsOk l) : label_Right.f (l.map ofLab) = some (labsB l) := by
  unfold label_Right.f
  rw [if_pos (labsOkB_of h), labs_to_of]
theorem isHush_f {f t : Int} {l : List Mat} (h : MatsOk l) : wire_isHush.f f t (l.map ofMat) = some (hushB f t l) := by
  unfold wire_isHush.f
  rw [if_pos (matsOkB_of h)]
  congr 2
  simp [Function.comp_def, to_of_mat]
theorem noDuty_f (r : Rc) : code_noDuty.f (r.l1.map ofLab) r.rt r.pl r.tr r.due r.st = some (noDutyB r) := by
  unfold code_noDuty.f noDutyB
  have h0 : (((r.l1.map ofLab).length : Int) = 0) = (r.l1 = []) := by simp
  simp only [h0]
  by_cases h1 : r.l1 = [] <;> by_cases h2 : r.rt = 0 <;> by_cases h3 : r.pl = 0 <;> by_cases h4 : r.tr = 0 <;> by_cases h5 : r.due = 0 <;> simp [h1, h2, h3, h4, h5]
  all_goals rw [Bool.eq_iff_iff]; simp
theorem noHush_f (r : Rc) : code_noHush.f r.fr r.tt (r.l10.map ofMat) = some (noHushB r) := by
  unfold code_noHush.f noHushB
  have h0 : (((r.l10.map ofMat).length : Int) == 0) = decide (r.l10 = []) := by rw [Bool.eq_iff_iff]; simp
  simp only [h0]
  by_cases h1 : r.fr = 0 <;> by_cases h2 : r.tt = 0 <;> simp [h1, h2]
theorem tick_f (t : Int) : tick_Right.f t = some (tickB t) := by
  unfold tick_Right.f tickB
  by_cases h : 0 ≤ t <;> simp [h]
theorem isDuty_f {r : Rc} (h : LabsOk r.l1) : code_isDuty.f (r.l1.map ofLab) r.rt r.pl r.tr r.due r.st = some (dutyB r) := by
  unfold code_isDuty.f dutyB numsB
  simp only [labRight_f h, tick_f, Option.bind_some, ge_iff_le]
  by_cases h1 : 0 ≤ r.rt <;> by_cases h2 : r.rt < 4 <;> by_cases h3 : 0 ≤ r.pl <;> by_cases h4 : r.pl < 4 <;> by_cases h5 : 0 ≤ r.tr <;> by_cases h6 : r.tr ≤ 99 <;> simp [h1, h2, h3, h4, h5, h6]
  cases labsB r.l1 <;> cases tickB r.due <;> by_cases h7 : 1 ≤ r.st <;> simp [h7]
theorem right_f {r : Rc} (h : r.sz) : r.right = some r.okB := by
  obtain ⟨h1, h2, h3⟩ := h
  have hw : wire_Right.f 2 [] r.fr r.tt (r.l10.map ofMat) = some (hushB r.fr r.tt r.l10) := by
    unfold wire_Right.f
    simp [isHush_f h3]
  have h7 : (((r.l7.map ofLab).length : Int) = 0) = (r.l7 = []) := by simp
  have h8 : (((r.l7.map ofLab).length : Int) == 0) = decide (r.l7 = []) := by rw [Bool.eq_iff_iff]; simp
  unfold Rc.right code_Right.f Rc.okB
  simp only [isDuty_f h1, noHush_f, noDuty_f, labRight_f h2, hw, Option.bind_some, h7, h8]
  by_cases e1 : r.k = 1
  · simp only [e1, if_true]
    cases dutyB r <;> by_cases e : r.l7 = [] <;> simp [e]
  · by_cases e2 : r.k = 2
    · simp only [e2, if_true]
      cases labsB r.l7 <;> cases noDutyB r <;> simp
    · by_cases e3 : r.k = 3
      · simp only [e3, if_true]
        cases hushB r.fr r.tt r.l10 <;> cases noDutyB r <;> simp
      · simp [e1, e2, e3]
theorem labsB_few {l : List Lab} (h : labsB l = true) : l.length ≤ 3 ∧ 1 ≤ l.length ∧ ∀ x ∈ l, x.name.size ≤ 8 ∧ x.value.size ≤ 8 := by
  simp only [labsB, eachB, Bool.and_eq_true, decide_eq_true_eq, Bool.not_eq_true', List.any_eq_false] at h
  refine ⟨h.2.1.2, h.2.1.1, fun x hx => ?_⟩
  have := h.2.2 x hx
  simp only [labB, nameB, valB, Bool.not_eq_true', Bool.not_eq_false, Bool.and_eq_true, decide_eq_true_eq] at this
  exact ⟨this.1.2, this.2.2⟩
theorem labsB_fewL {l : List Lab} (h : labsB l = true) : fewL l = true := by
  obtain ⟨h1, _, h2⟩ := labsB_few h
  simp only [fewL, Bool.and_eq_true, decide_eq_true_eq, List.all_eq_true]
  exact ⟨by omega, fun x hx => by have := h2 x hx; omega⟩
theorem hushB_few {f t : Int} {l : List Mat} (h : hushB f t l = true) : tickB f = true ∧ tickB t = true ∧ f < t ∧ 1 ≤ l.length ∧ l.length ≤ 4 ∧ ∀ x ∈ l, matB x = true := by
  simp only [hushB, Bool.and_eq_true, decide_eq_true_eq, Bool.not_eq_true', List.any_eq_false] at h
  exact ⟨h.1.1.1.1.1, h.1.1.1.1.2, h.1.1.1.2, h.1.1.2, h.1.2, fun x hx => by simpa using h.2 x hx⟩
theorem matB_few {x : Mat} (h : matB x = true) : 0 ≤ x.kind ∧ x.kind ≤ 3 ∧ x.name.size ≤ 8 ∧ x.value.size ≤ 8 := by
  simp only [matB, nameB, valB, Bool.and_eq_true, decide_eq_true_eq] at h
  exact ⟨h.1.1.1.1, h.1.1.1.2, h.1.1.2.2, h.1.2.2⟩
theorem hushB_fewM {f t : Int} {l : List Mat} (h : hushB f t l = true) : fewM l = true := by
  obtain ⟨_, _, _, _, h1, h2⟩ := hushB_few h
  simp only [fewM, Bool.and_eq_true, decide_eq_true_eq, List.all_eq_true]
  exact ⟨by omega, fun x hx => by have := matB_few (h2 x hx); omega⟩
def Rc.bytes (r : Rc) : List UInt8 := putW r.k r.l1 r.rt r.pl r.tr r.due r.st r.l7 r.fr r.tt r.l10
def Rc.put (r : Rc) : Option (ByteArray × Int) := code_Put.f r.k (r.l1.map ofLab) r.rt r.pl r.tr r.due r.st (r.l7.map ofLab) r.fr r.tt (r.l10.map ofMat)
theorem mats_to_of (xs : List Mat) : (xs.map ofMat).map toMat = xs := by simp [Function.comp_def, to_of_mat]
theorem put_ok {r : Rc} (h : r.sz) (ho : r.okB = true) : r.put = some (⟨r.bytes.toArray⟩, 0) := by
  have hr := right_f h
  unfold Rc.right at hr
  unfold Rc.put code_Put.f
  rw [hr, ho]
  simp only [Option.bind_some, if_true]
  have hp : code_put.f r.k (r.l1.map ofLab) r.rt r.pl r.tr r.due r.st (r.l7.map ofLab) r.fr r.tt (r.l10.map ofMat) = some ⟨r.bytes.toArray⟩ := by
    unfold code_put.f
    simp only [labs_to_of, mats_to_of]
    rw [if_pos]
    · rfl
    · unfold Rc.okB at ho
      by_cases e1 : r.k = 1
      · rw [if_pos e1] at ho ⊢
        simp only [dutyB, Bool.and_eq_true] at ho ⊢
        exact ⟨labsB_fewL ho.1.1.1.1.1.2, ho.1.1.1.1.2⟩
      · rw [if_neg e1] at ho ⊢
        by_cases e2 : r.k = 2
        · rw [if_pos e2] at ho ⊢
          simp only [Bool.and_eq_true] at ho
          exact labsB_fewL ho.1.1
        · rw [if_neg e2] at ho ⊢
          by_cases e3 : r.k = 3
          · rw [if_pos e3] at ho
            simp only [Bool.and_eq_true] at ho ⊢
            exact ⟨hushB_fewM ho.1.1, (hushB_few ho.1.1).1, (hushB_few ho.1.1).2.1⟩
          · rw [if_neg e3] at ho
            cases ho
  rw [hp]
  rfl
theorem put_no {r : Rc} (h : r.sz) (ho : r.okB = false) : r.put = some (⟨#[]⟩, 1) := by
  have hr := right_f h
  unfold Rc.right at hr
  unfold Rc.put code_Put.f
  rw [hr, ho]
  rfl
end Go.Proofs.YtndgollcganhmaaQ.P
namespace Go.Proofs.Ytndgollcganhmaa
open Go.RowKit
theorem u8_tn (x : Int) : (u8 x).toNat = (x % 256).toNat := by
  unfold u8
  rw [UInt8.toNat_ofNat']
  omega
theorem u8_nat {n : Nat} (h : n < 256) : (u8 (n : Int)).toNat = n := by
  rw [u8_tn]
  omega
theorem numF_u8 {n : Nat} (h : n < 256) (t : List UInt8) (b : Bool) : numF (u8 (n : Int) :: t, b) = (n, (t, b)) := by
  simp only [numF, u8_nat h]
theorem numF_u8i {n : Int} (h0 : 0 ≤ n) (h : n < 256) (t : List UInt8) (b : Bool) : numF (u8 n :: t, b) = (n.toNat, (t, b)) := by
  obtain ⟨m, rfl⟩ := Int.eq_ofNat_of_zero_le h0
  rw [numF_u8 (by omega)]
  simp
theorem takeF_app (x t : List UInt8) (b : Bool) : takeF x.length (x ++ t, b) = (x, (t, b)) := by
  unfold takeF
  rw [if_neg (by simp)]
  simp
theorem textF_app {s : ByteArray} (h : s.size < 256) (t : List UInt8) (b : Bool) : textF (textB s ++ t, b) = (s.data.toList, (t, b)) := by
  unfold textF textB
  rw [List.cons_append, numF_u8 h]
  rw [show s.size = s.data.toList.length from (len_data s).symm, takeF_app]
theorem timeF_app {t : Int} (h0 : 0 ≤ t) (h1 : t ≤ 1099511627776) (r : List UInt8) (b : Bool) : timeF 6 0 (sixB t ++ r, b) = (t.toNat, (r, b)) := by
  obtain ⟨m, rfl⟩ := Int.eq_ofNat_of_zero_le h0
  simp only [sixB, List.cons_append, List.nil_append, timeF, numF, u8_tn]
  refine Prod.ext ?_ rfl
  show _ = m
  simp only
  omega
theorem labF_app {x : Lab} (h1 : x.name.size < 256) (h2 : x.value.size < 256) (t : List UInt8) (b : Bool) : labF (labT2 x ++ t, b) = (x, (t, b)) := by
  unfold labF labT2
  rw [List.append_assoc, textF_app h1, textF_app h2]
  simp only [tx_of]
theorem labsF_app : ∀ (xs acc : List Lab) (t : List UInt8), (∀ x ∈ xs, x.name.size < 256 ∧ x.value.size < 256) → labsF xs.length acc (xs.flatMap labT2 ++ t, false) = (acc ++ xs, (t, false))
  | [], acc, t, _ => by simp [labsF]
  | x :: xs, acc, t, h => by
    have hx := h x (by simp)
    rw [List.length_cons, labsF, if_neg (by simp), List.flatMap_cons, List.append_assoc, labF_app hx.1 hx.2, labsF_app xs _ t fun y hy => h y (by simp [hy])]
    simp
theorem matF_app {m : Mat} (h0 : 0 ≤ m.kind) (h3 : m.kind < 256) (h1 : m.name.size < 256) (h2 : m.value.size < 256) (t : List UInt8) (b : Bool) : matF (matT2 m ++ t, b) = (m, (t, b)) := by
  unfold matF matT2
  rw [List.cons_append, List.append_assoc, numF_u8i h0 h3, textF_app h1, textF_app h2]
  simp only [tx_of]
  rw [Int.toNat_of_nonneg h0]
theorem matsF_app : ∀ (xs acc : List Mat) (t : List UInt8), (∀ x ∈ xs, 0 ≤ x.kind ∧ x.kind < 256 ∧ x.name.size < 256 ∧ x.value.size < 256) → matsF xs.length acc (xs.flatMap matT2 ++ t, false) = (acc ++ xs, (t, false))
  | [], acc, t, _ => by simp [matsF]
  | x :: xs, acc, t, h => by
    have hx := h x (by simp)
    rw [List.length_cons, matsF, if_neg (by simp), List.flatMap_cons, List.append_assoc, matF_app hx.1 hx.2.1 hx.2.2.1 hx.2.2.2, matsF_app xs _ t fun y hy => h y (by simp [hy])]
    simp
end Go.Proofs.Ytndgollcganhmaa
namespace Go.Proofs.YtndgollcganhmaaQ.P
open Go.RowKit Go.Proofs.YtndgollcganhmaaW.PrintWords Go.Proofs.YtndgollcganhmaaW.PrintLast Go.Proofs.YtndgollcganhmaaW.PrintMore
attribute [local go_sem] max2_int min2_int max_two min_two max_three min_three max_four min_four
def foghornlaw10_few.T5 : Bool × List (List Nat × List Nat) := (true, [([], []), ([], []), ([1], [1]), ([], []), ([3], [3]), ([4], [4]), ([5], [5]), ([2, 6], [2, 6]), ([], []), ([8], [8]), ([], []), ([10], [10]), ([11], [11]), ([12], [12]), ([9, 13], [9, 13]), ([7, 14], [7, 14]), ([15], [15]), ([0, 16], [0, 16]), ([17, 17, 0, 1, 2, 3, 4, 5, 6, 7, 8, 9, 10, 11, 12, 13, 14, 15, 16, 17], [0, 17])])
def foghornlaw10_few.B5 : List Nat := [0, 0, 2, 0, 8, 24, 56, 126, 0, 256, 0, 1024, 3072, 7168, 16128, 32766, 65534, 131071, 262143]
theorem foghornlaw10_few.tab5 : rtab .any (opsOf Try.f10 5) = foghornlaw10_few.T5 := by kernel_rfl
theorem foghornlaw10_few.bits5 : waitsOk foghornlaw10_few.T5.2 foghornlaw10_few.B5 = true := by kernel_rfl
end Go.Proofs.YtndgollcganhmaaQ.P
namespace Go.Proofs.YtndgollcganhmaaQ.P
open Go.RowKit Go.Proofs.YtndgollcganhmaaW.PrintWords Go.Proofs.YtndgollcganhmaaW.PrintLast Go.Proofs.YtndgollcganhmaaW.PrintMore
attribute [local go_sem] max2_int min2_int max_two min_two max_three min_three max_four min_four
def foghornlaw10_asked.T5 : Bool × List (List Nat × List Nat) := (true, [([], []), ([], []), ([1], [1]), ([], []), ([3], [3]), ([], []), ([5], [5]), ([6], [6]), ([7], [7]), ([4, 8], [4, 8]), ([], []), ([10], [10]), ([], []), ([12], [12]), ([13], [13]), ([14], [14]), ([11, 15], [11, 15]), ([2, 9, 16], [2, 9, 16]), ([17], [17]), ([0, 18], [0, 18]), ([19, 19, 0, 1, 2, 3, 4, 5, 6, 7, 8, 9, 10, 11, 12, 13, 14, 15, 16, 17, 18, 19], [0, 19])])
def foghornlaw10_asked.B5 : List Nat := [0, 0, 2, 0, 8, 0, 32, 96, 224, 504, 0, 1024, 0, 4096, 12288, 28672, 64512, 131070, 262142, 524287, 1048575]
theorem foghornlaw10_asked.tab5 : rtab .any (opsOf Try.f11 5) = foghornlaw10_asked.T5 := by kernel_rfl
theorem foghornlaw10_asked.bits5 : waitsOk foghornlaw10_asked.T5.2 foghornlaw10_asked.B5 = true := by kernel_rfl
end Go.Proofs.YtndgollcganhmaaQ.P
namespace Go.Proofs.Ytndgollcganhmaa
open Go.RowKit
attribute [local go_sem high] ext_size ext_cell ext_frozen alloc_cell alloc_frozen
def cut12 (x : ByteArray) : ByteArray := x.extract 0 12
def cutL (x : Lab) : Lab := ⟨cut12 x.name, cut12 x.value⟩
def fewL (xs : List Lab) : List Lab := (xs.take 6).map cutL
def cutM (x : Mat) : Mat := ⟨x.kind, cut12 x.name, cut12 x.value⟩
def fewM (xs : List Mat) : List Mat := (xs.take 6).map cutM
end Go.Proofs.Ytndgollcganhmaa
namespace Go.Proofs.YtndgollcganhmaaQ.P
open Go.RowKit Go.Proofs.YtndgollcganhmaaW.PrintWords Go.Proofs.YtndgollcganhmaaW.PrintLast Go.Proofs.YtndgollcganhmaaW.PrintMore Go.Proofs.Ytndgollcganhmaa
theorem rdL {xs : List S41} {i : Nat} (h : i < xs.length) : rd_T41 xs (i : Int) = xs[i] := getD_cast h
theorem rdM {xs : List S35} {i : Nat} (h : i < xs.length) : rd_T35 xs (i : Int) = xs[i] := getD_cast h
def cutLS (x : S41) : S41 := ⟨cutB 12 x.f0, cutB 12 x.f1⟩
def cutMS (x : S35) : S35 := ⟨x.f0, cutB 12 x.f1, cutB 12 x.f2⟩
theorem bytes_list {a b : ByteArray} : (a.toList = b.toList) ↔ a = b := ⟨fun h => bytes_of_eq (by rw [h]; simp), fun h => by rw [h]⟩
end Go.Proofs.YtndgollcganhmaaQ.P
namespace Go.Proofs.YtndgollcganhmaaQ.P
open Go.RowKit Go.Proofs.YtndgollcganhmaaW.PrintWords Go.Proofs.Ytndgollcganhmaa
theorem tx_app (a b : List UInt8) : tx a ++ tx b = tx (a ++ b) := by
  apply ByteArray.ext
  rw [ByteArray.data_append]
  simp [tx]
theorem one_f (n : Int) : foghornref17_one.f n = some (tx [Go.Proofs.Ytndgollcganhmaa.u8 n]) := rfl
theorem text_f {s : ByteArray} (h : s.size ≤ 1000) : foghornref17_text.f s = some (tx (textB s)) := by
  unfold foghornref17_text.f
  rw [one_f]
  simp only [Option.bind_some]
  rw [if_pos (by rw [tx_size]; simp; omega)]
  have : s = tx s.data.toList := (tx_of s).symm
  conv => lhs; rw [this]
  rw [tx_app, ← this]
  rfl
theorem six_f (t : Int) (k : Nat) (ht : tickB t = true) : foghornref17_six.f (k + 7) t = some (tx (sixB t)) := by
  have h := tickB_of ht
  unfold foghornref17_six.f
  simp only [foghornref17_six.l0, one_f, Option.bind_some]
  have e : ∀ x : Int, 0 ≤ x → x ≤ 1099511627776 → wrap64 (Int.tdiv x 256) = x / 256 := by
    intro x h0 h1
    rw [Int.tdiv_eq_ediv_of_nonneg h0, w64 (by omega) (by omega)]
  have m : ∀ x : Int, 0 ≤ x → Go.Proofs.Ytndgollcganhmaa.u8 (Int.tmod x 256) = Go.Proofs.Ytndgollcganhmaa.u8 x := by
    intro x h0
    rw [Int.tmod_eq_emod_of_nonneg h0]
    apply UInt8.toNat_inj.1
    rw [u8_tn, u8_tn]
    omega
  have w : ∀ x : Int, 0 ≤ x → x ≤ 10 → wrap64 (x + 1) = x + 1 := fun x h0 h1 => w64 (by omega) (by omega)
  rw [show (⟨#[]⟩ : ByteArray) = tx [] from rfl]
  rw [show wrap64 (0 + 1) = 1 from w 0 (by omega) (by omega), show wrap64 (1 + 1) = 2 from w 1 (by omega) (by omega), show wrap64 (2 + 1) = 3 from w 2 (by omega) (by omega), show wrap64 (3 + 1) = 4 from w 3 (by omega) (by omega), show wrap64 (4 + 1) = 5 from w 4 (by omega) (by omega), show wrap64 (5 + 1) = 6 from w 5 (by omega) (by omega)]
  simp only [Int.reduceLT, if_true, if_false]
  rw [e t (by omega) (by omega), e (t / 256) (by omega) (by omega), e (t / 256 / 256) (by omega) (by omega), e (t / 256 / 256 / 256) (by omega) (by omega), e (t / 256 / 256 / 256 / 256) (by omega) (by omega), m t (by omega), m (t / 256) (by omega), m (t / 256 / 256) (by omega), m (t / 256 / 256 / 256) (by omega), m (t / 256 / 256 / 256 / 256) (by omega), m (t / 256 / 256 / 256 / 256 / 256) (by omega)]
  simp only [tx_app, tx_size, List.cons_append, List.nil_append, List.length_cons, List.length_nil]
  simp only [Nat.reduceAdd, Nat.reduceLeDiff, if_true]
  rw [show t / 256 / 256 / 256 / 256 / 256 = t / 1099511627776 by omega, show t / 256 / 256 / 256 / 256 = t / 4294967296 by omega, show t / 256 / 256 / 256 = t / 16777216 by omega, show t / 256 / 256 = t / 65536 by omega]
  rfl
theorem labels_l (xs : List Lab) (hx : ∀ x ∈ xs, x.name.size ≤ 12 ∧ x.value.size ≤ 12) (hl : xs.length ≤ 6) (d : Nat) : ∀ (k i : Nat) (acc : List UInt8), i + d = xs.length → d < k → acc.length ≤ 100 * i + 1 →
    foghornref17_labels.l0 k (tx acc) (xs.map ofLab) ((xs.map ofLab).length : Int) i = some (tx (acc ++ (xs.drop i).flatMap labT2)) := by
  induction d with
  | zero =>
    intro k i acc h hk ha
    obtain ⟨k, rfl⟩ : ∃ m, k = m + 1 := ⟨k - 1, by omega⟩
    simp only [foghornref17_labels.l0]
    rw [if_neg (by simp; omega), drop_end (by omega)]
    simp
  | succ d ih =>
    intro k i acc h hk ha
    obtain ⟨k, rfl⟩ : ∃ m, k = m + 1 := ⟨k - 1, by omega⟩
    have hi : i < (xs.map ofLab).length := by simp; omega
    have hi' : i < xs.length := by omega
    have hn := hx xs[i] (List.getElem_mem hi')
    have l1 := textB_len xs[i].name
    have l2 := textB_len xs[i].value
    simp only [foghornref17_labels.l0]
    rw [if_pos (by omega), if_pos (by omega), if_pos (by omega), rdL hi, List.getElem_map]
    simp only [ofLab]
    rw [text_f (by omega), Option.bind_some, if_pos (by rw [tx_size, tx_size]; omega), text_f (by omega), Option.bind_some, if_pos (by rw [tx_app, tx_size, tx_size, List.length_append]; omega), tx_app, tx_app, w64s (by omega), ih k (i + 1) _ (by omega) (by omega) (by simp only [List.length_append]; omega), drop_cons hi']
    simp only [List.flatMap_cons, List.append_assoc, labT2]
theorem labels_f {xs : List Lab} (hx : ∀ x ∈ xs, x.name.size ≤ 12 ∧ x.value.size ≤ 12) (hl : xs.length ≤ 6) {k : Nat} (hk : 7 ≤ k) : foghornref17_labels.f k (xs.map ofLab) = some (tx (labsW xs)) := by
  unfold foghornref17_labels.f
  rw [one_f, Option.bind_some, show (0 : Int) = ((0 : Nat) : Int) from rfl, labels_l xs hx hl xs.length k 0 _ (by omega) (by omega) (by simp)]
  simp [labsW]
theorem mats_l (xs : List Mat) (hx : ∀ x ∈ xs, x.name.size ≤ 12 ∧ x.value.size ≤ 12) (hl : xs.length ≤ 6) (d : Nat) : ∀ (k i : Nat) (acc : List UInt8), i + d = xs.length → d < k → acc.length ≤ 100 * i + 100 →
    foghornref17_Put.l0 k (tx acc) (xs.map ofMat) ((xs.map ofMat).length : Int) i = some (tx (acc ++ (xs.drop i).flatMap matT2)) := by
  induction d with
  | zero =>
    intro k i acc h hk ha
    obtain ⟨k, rfl⟩ : ∃ m, k = m + 1 := ⟨k - 1, by omega⟩
    simp only [foghornref17_Put.l0]
    rw [if_neg (by simp; omega), drop_end (by omega)]
    simp
  | succ d ih =>
    intro k i acc h hk ha
    obtain ⟨k, rfl⟩ : ∃ m, k = m + 1 := ⟨k - 1, by omega⟩
    have hi : i < (xs.map ofMat).length := by simp; omega
    have hi' : i < xs.length := by omega
    have hn := hx xs[i] (List.getElem_mem hi')
    have l1 := textB_len xs[i].name
    have l2 := textB_len xs[i].value
    simp only [foghornref17_Put.l0]
    rw [if_pos (by omega), if_pos (by omega), if_pos (by omega), rdM hi, List.getElem_map]
    simp only [ofMat]
    rw [one_f, Option.bind_some, if_pos (by rw [tx_size, tx_size]; simp; omega), text_f (by omega), Option.bind_some, if_pos (by rw [tx_app, tx_size, tx_size, List.length_append]; simp; omega), text_f (by omega), Option.bind_some, if_pos (by rw [tx_app, tx_app, tx_size, tx_size, List.length_append, List.length_append]; simp; omega), tx_app, tx_app, tx_app, w64s (by omega), ih k (i + 1) _ (by omega) (by omega) (by simp only [List.length_append, List.length_cons, List.length_nil]; omega), drop_cons hi']
    simp only [List.flatMap_cons, List.append_assoc, matT2, List.cons_append, List.nil_append]
theorem refPut_f {r : Rc} (ho : r.okB = true) {k : Nat} (hk : 20 ≤ k) : foghornref17_Put.f k r.k (r.l1.map ofLab) r.rt r.pl r.tr r.due r.st (r.l7.map ofLab) r.fr r.tt (r.l10.map ofMat) = some (tx r.bytes) := by
  obtain ⟨k, rfl⟩ : ∃ m, k = m + 7 := ⟨k - 7, by omega⟩
  unfold foghornref17_Put.f Rc.bytes putW
  unfold Rc.okB at ho
  by_cases e1 : r.k = 1
  · rw [if_pos e1] at ho
    simp only [Bool.and_eq_true, dutyB] at ho
    have hf := labsB_few ho.1.1.1.1.1.2
    rw [if_neg (by omega), if_pos e1, if_pos e1]
    simp only [one_f, Option.bind_some, six_f _ _ ho.1.1.1.1.2, labels_f (k := k + 7) (xs := r.l1) (fun x hx => by have := hf.2.2 x hx; omega) (by omega) (by omega), tx_app, tx_size]
    have hn : (labsW r.l1).length ≤ 1000 := by
      have := flat_le labT2 100 r.l1 (fun x hx => by
        have := hf.2.2 x hx
        simp only [labT2, List.length_append, textB_len]; omega)
      simp only [labsW, List.length_cons]
      omega
    simp only [List.length_append, List.length_cons, List.length_nil, sixB_len, Int.reduceLE, Nat.reduceAdd]
    rw [if_pos (by omega), if_pos (by omega), if_pos (by omega), if_pos (by omega), if_pos (by omega), if_pos (by omega)]
    rfl
  · rw [if_neg e1] at ho
    by_cases e2 : r.k = 2
    · rw [if_pos e2] at ho
      simp only [Bool.and_eq_true] at ho
      have hf := labsB_few ho.1.1
      rw [if_pos e2, if_neg e1, if_pos e2]
      have hn : (labsW r.l7).length ≤ 1000 := by
        have := flat_le labT2 100 r.l7 (fun x hx => by
          have := hf.2.2 x hx
          simp only [labT2, List.length_append, textB_len]; omega)
        simp only [labsW, List.length_cons]
        omega
      simp only [one_f, Option.bind_some, labels_f (k := k + 7) (xs := r.l7) (fun x hx => by have := hf.2.2 x hx; omega) (by omega) (by omega), tx_app, tx_size, List.length_cons, List.length_nil]
      rw [if_pos (by omega)]
      rfl
    · rw [if_neg e2] at ho
      by_cases e3 : r.k = 3
      · rw [if_pos e3] at ho
        simp only [Bool.and_eq_true] at ho
        have hf := hushB_few ho.1.1
        rw [if_neg e2, if_neg e1, if_neg e1, if_neg e2]
        simp only [one_f, Option.bind_some, six_f _ _ hf.1, six_f _ _ hf.2.1, tx_app, tx_size]
        simp only [List.length_append, List.length_cons, List.length_nil, sixB_len]
        rw [if_pos (by omega), if_pos (by omega), if_pos (by omega), show (0 : Int) = ((0 : Nat) : Int) from rfl, mats_l r.l10 (fun x hx => by have := matB_few (hf.2.2.2.2.2 x hx); omega) (by omega) r.l10.length _ 0 _ (by omega) (by omega) (by simp [sixB_len])]
        simp [hushW, matsW, e3]
      · rw [if_neg e3] at ho
        cases ho
end Go.Proofs.YtndgollcganhmaaQ.P
namespace Go.Proofs.YtndgollcganhmaaQ.P
open Go.RowKit Go.Proofs.YtndgollcganhmaaW.PrintWords Go.Proofs.Ytndgollcganhmaa
theorem asked_l (xs ys : List Mat) (hl : xs.length = ys.length) (hb : xs.length < 1000000) (d : Nat) : ∀ (k i : Nat), i + d = xs.length → d < k →
    foghornref10_Asked.l0 k (xs.map ofMat) (ys.map ofMat) ((xs.map ofMat).length : Int) i = some (decide (xs.drop i = ys.drop i)) := by
  induction d with
  | zero =>
    intro k i h hk
    obtain ⟨k, rfl⟩ : ∃ m, k = m + 1 := ⟨k - 1, by omega⟩
    simp only [foghornref10_Asked.l0]
    rw [if_neg (by simp; omega), drop_end (by omega), drop_end (by omega)]
    simp
  | succ d ih =>
    intro k i h hk
    obtain ⟨k, rfl⟩ : ∃ m, k = m + 1 := ⟨k - 1, by omega⟩
    have hi : i < (xs.map ofMat).length := by simp; omega
    have hj : i < (ys.map ofMat).length := by simp; omega
    have hi' : i < xs.length := by omega
    have hj' : i < ys.length := by omega
    simp only [foghornref10_Asked.l0]
    rw [if_pos (by omega), if_pos (by omega), if_pos (by omega), if_pos (by omega), rdM hi, rdM hj, List.getElem_map, List.getElem_map, w64s (by omega), ih k (i + 1) (by omega) (by omega), drop_cons hi', drop_cons hj']
    generalize xs[i] = x
    generalize ys[i] = y
    obtain ⟨a, b, c⟩ := x
    obtain ⟨a', b', c'⟩ := y
    simp only [ofMat]
    by_cases h1 : a = a'
    · by_cases h2 : b = b'
      · by_cases h3 : c = c'
        · subst h1 h2 h3
          simp
        · have : ¬ c.toList = c'.toList := fun h => h3 (bytes_list.1 h)
          simp [h1, h2, h3, this]
      · have : ¬ b.toList = b'.toList := fun h => h2 (bytes_list.1 h)
        simp [h1, h2, this]
    · simp [h1]
theorem asked_f (xs ys : List Mat) (hb : xs.length < 1000000) {k : Nat} (hk : xs.length < k) : foghornref10_Asked.f k (xs.map ofMat) (ys.map ofMat) = some (decide (xs = ys)) := by
  unfold foghornref10_Asked.f
  by_cases h : xs.length = ys.length
  · rw [if_pos (by simp [h]), show (0 : Int) = ((0 : Nat) : Int) from rfl, asked_l xs ys h hb xs.length k 0 (by omega) (by omega)]
    simp
  · rw [if_neg (by simp; omega)]
    have : xs ≠ ys := fun e => h (by rw [e])
    simp [this]
theorem hushes_f (f t f' t' : Int) (xs ys : List Mat) (hb : xs.length < 1000000) {k : Nat} (hk : xs.length < k) : foghornref12_Hushes.f k f t (xs.map ofMat) f' t' (ys.map ofMat) = some (decide (f = f') && decide (t = t') && decide (xs = ys)) := by
  unfold foghornref12_Hushes.f
  rw [asked_f xs ys hb hk]
  by_cases h1 : f = f' <;> by_cases h2 : t = t' <;> simp [h1, h2]
theorem refSameL_f (a b : List Lab) : foghornref10_Same.f (a.map ofLab) (b.map ofLab) = some (decide (a = b)) := by
  unfold foghornref10_Same.f
  rw [labs_to_of, labs_to_of]
theorem dutySame_f (a b : List Lab) (a1 a2 a3 a4 a5 b1 b2 b3 b4 b5 : Int) : foghornref16_Same.f (a.map ofLab) a1 a2 a3 a4 a5 (b.map ofLab) b1 b2 b3 b4 b5 = some (decide (a = b) && (decide (a1 = b1) && (decide (a2 = b2) && (decide (a3 = b3) && (decide (a4 = b4) && decide (a5 = b5)))))) := by
  unfold foghornref16_Same.f
  rw [refSameL_f]
  by_cases h0 : a = b <;> by_cases h1 : a1 = b1 <;> by_cases h2 : a2 = b2 <;> by_cases h3 : a3 = b3 <;> by_cases h4 : a4 = b4 <;> simp [h0, h1, h2, h3, h4]
  rw [Bool.eq_iff_iff]
  simp
instance : DecidableEq Rc := fun a b =>
  decidable_of_iff (a.k = b.k ∧ a.l1 = b.l1 ∧ a.rt = b.rt ∧ a.pl = b.pl ∧ a.tr = b.tr ∧ a.due = b.due ∧ a.st = b.st ∧ a.l7 = b.l7 ∧ a.fr = b.fr ∧ a.tt = b.tt ∧ a.l10 = b.l10)
    ⟨fun h => by cases a; cases b; simpa using h, fun h => by subst h; simp⟩
theorem refTick_f (t : Int) : foghornref05_Right.f t = some (tickB t) := by
  unfold foghornref05_Right.f tickB
  by_cases h : 0 ≤ t <;> simp [h]
theorem refRightL_f {l : List Lab} (h : LabsOk l) : foghornref10_Right.f (l.map ofLab) = some (labsB l) := by
  unfold foghornref10_Right.f
  rw [if_pos (labsOkB_of h), labs_to_of]
theorem refDuty_f {r : Rc} (h : LabsOk r.l1) : foghornref17_duty.f (r.l1.map ofLab) r.rt r.pl r.tr r.due r.st = some (dutyB r) := by
  unfold foghornref17_duty.f dutyB numsB
  simp only [refRightL_f h, refTick_f, Option.bind_some, ge_iff_le]
  have e1 : (r.rt < 4) = (r.rt ≤ 3) := propext ⟨fun h => by omega, fun h => by omega⟩
  have e2 : (r.pl < 4) = (r.pl ≤ 3) := propext ⟨fun h => by omega, fun h => by omega⟩
  simp only [e1, e2]
  cases labsB r.l1 <;> by_cases h1 : 0 ≤ r.rt <;> by_cases h2 : r.rt ≤ 3 <;> by_cases h3 : 0 ≤ r.pl <;> by_cases h4 : r.pl ≤ 3 <;> by_cases h5 : 0 ≤ r.tr <;> by_cases h6 : r.tr ≤ 99 <;> simp [h1, h2, h3, h4, h5, h6]
  cases tickB r.due <;> by_cases h7 : 1 ≤ r.st <;> simp [h7]
theorem refHush_f {f t : Int} {l : List Mat} (h : MatsOk l) : foghornref12_Hush.f f t (l.map ofMat) = some (hushB f t l) := by
  unfold foghornref12_Hush.f hushB foghornref10_Matchers.f
  rw [if_pos (matsOkB_of h), mats_to_of]
  simp only [refTick_f, matsB, tickB]
  have e1 : (((l.map ofMat).length : Int) ≥ 1) = (1 ≤ l.length) := by simp; omega
  simp only [e1, timeB]
  by_cases h1 : 0 ≤ f <;> by_cases h2 : f ≤ 1099511627776 <;> by_cases h3 : 0 ≤ t <;> by_cases h4 : t ≤ 1099511627776 <;> by_cases h5 : f < t <;> by_cases h6 : 1 ≤ l.length <;> simp [h1, h2, h3, h4, h5, h6]
theorem refRight_f {r : Rc} (h : r.sz) (hb : r.l10.length < 1000000) {k : Nat} (hk : r.l10.length < k) : foghornref17_Right.f k r.k (r.l1.map ofLab) r.rt r.pl r.tr r.due r.st (r.l7.map ofLab) r.fr r.tt (r.l10.map ofMat) = some r.okB := by
  obtain ⟨h1, h2, h3⟩ := h
  have hd := dutySame_f r.l1 [] r.rt r.pl r.tr r.due r.st 0 0 0 0 0
  have hh := hushes_f r.fr r.tt 0 0 r.l10 [] hb hk
  simp only [List.map_nil] at hd hh
  unfold foghornref17_Right.f Rc.okB
  rw [hd, hh, refDuty_f h1, refRightL_f h2, refHush_f h3]
  have hd' : (decide (r.l1 = []) && (decide (r.rt = 0) && (decide (r.pl = 0) && (decide (r.tr = 0) && (decide (r.due = 0) && decide (r.st = 0)))))) = noDutyB r := by simp [noDutyB, Bool.and_assoc]
  have hh' : (decide (r.fr = 0) && decide (r.tt = 0) && decide (r.l10 = [])) = noHushB r := rfl
  rw [hd', hh']
  have h7 : (((r.l7.map ofLab).length : Int) = 0) = (r.l7 = []) := by simp
  have h8 : (((r.l7.map ofLab).length : Int) == 0) = decide (r.l7 = []) := by rw [Bool.eq_iff_iff]; simp
  simp only [Option.bind_some, h7, h8]
  by_cases e1 : r.k = 1
  · simp only [e1, if_true]
    cases dutyB r <;> by_cases e : r.l7 = [] <;> simp [e]
  · by_cases e2 : r.k = 2
    · simp only [e2, if_true]
      cases labsB r.l7 <;> cases noDutyB r <;> simp
    · by_cases e3 : r.k = 3
      · simp only [e3, if_true]
        cases hushB r.fr r.tt r.l10 <;> cases noDutyB r <;> simp
      · simp [e1, e2, e3]
end Go.Proofs.YtndgollcganhmaaQ.P
namespace Go.Proofs.YtndgollcganhmaaQ.P
open Go.RowKit Go.Proofs.YtndgollcganhmaaW.PrintWords Go.Proofs.Ytndgollcganhmaa
abbrev bl (s : ByteArray) : List UInt8 := s.data.toList
theorem okB_cases {r : Rc} (h : r.okB = true) :
    (r.k = 1 ∧ dutyB r = true ∧ r = ⟨1, r.l1, r.rt, r.pl, r.tr, r.due, r.st, [], 0, 0, []⟩) ∨
    (r.k = 2 ∧ labsB r.l7 = true ∧ r = ⟨2, [], 0, 0, 0, 0, 0, r.l7, 0, 0, []⟩) ∨
    (r.k = 3 ∧ hushB r.fr r.tt r.l10 = true ∧ r = ⟨3, [], 0, 0, 0, 0, 0, [], r.fr, r.tt, r.l10⟩) := by
  unfold Rc.okB at h
  obtain ⟨k, l1, a2, a3, a4, a5, a6, l7, a8, a9, l10⟩ := r
  simp only [noHushB, noDutyB] at h
  by_cases e1 : k = 1
  · rw [if_pos e1] at h
    simp only [Bool.and_eq_true, decide_eq_true_eq] at h
    left
    have hd := h.1.1
    obtain ⟨⟨_, h2⟩, h3⟩ := h
    subst e1
    refine ⟨rfl, hd, ?_⟩
    simp [h2, h3]
  · rw [if_neg e1] at h
    by_cases e2 : k = 2
    · rw [if_pos e2] at h
      simp only [Bool.and_eq_true, decide_eq_true_eq] at h
      right
      left
      simp [e2, h]
    · rw [if_neg e2] at h
      by_cases e3 : k = 3
      · rw [if_pos e3] at h
        simp only [Bool.and_eq_true, decide_eq_true_eq] at h
        right
        right
        simp [e3, h]
      · rw [if_neg e3] at h
        cases h
theorem labsOk_of {l : List Lab} (h : labsB l = true) : LabsOk l := fun x hx => by
  have := (labsB_few h).2.2 x hx
  unfold maxLen
  omega
theorem sz_of {r : Rc} (h : r.okB = true) : r.sz := by
  rcases okB_cases h with ⟨hk, hd, hr⟩ | ⟨hk, hd, hr⟩ | ⟨hk, hd, hr⟩
  · rw [hr]
    refine ⟨labsOk_of ?_, (fun x hx => by cases hx), (fun x hx => by cases hx)⟩
    simp only [dutyB, Bool.and_eq_true] at hd
    exact hd.1.1.1.2
  · rw [hr]
    exact ⟨(fun x hx => by cases hx), labsOk_of hd, (fun x hx => by cases hx)⟩
  · rw [hr]
    refine ⟨(fun x hx => by cases hx), (fun x hx => by cases hx), fun x hx => ?_⟩
    have := matB_few ((hushB_few hd).2.2.2.2.2 x hx)
    unfold maxLen
    omega
theorem numsB_of {a b c : Int} (h : numsB a b c = true) : 0 ≤ a ∧ a < 4 ∧ 0 ≤ b ∧ b < 4 ∧ 0 ≤ c ∧ c ≤ 99 := by
  simp only [numsB, Bool.and_eq_true, decide_eq_true_eq] at h
  omega
theorem dutyB_of {r : Rc} (h : dutyB r = true) : (0 ≤ r.rt ∧ r.rt < 4 ∧ 0 ≤ r.pl ∧ r.pl < 4 ∧ 0 ≤ r.tr ∧ r.tr ≤ 99) ∧ labsB r.l1 = true ∧ tickB r.due = true ∧ 1 ≤ r.st ∧ r.st ≤ 3 := by
  simp only [dutyB, Bool.and_eq_true, decide_eq_true_eq] at h
  exact ⟨numsB_of h.1.1.1.1, h.1.1.1.2, h.1.1.2, h.1.2, h.2⟩
theorem bytes_one {r : Rc} (h : r.k = 1) : r.bytes = Go.Proofs.Ytndgollcganhmaa.u8 1 :: Go.Proofs.Ytndgollcganhmaa.u8 r.rt :: Go.Proofs.Ytndgollcganhmaa.u8 r.pl :: Go.Proofs.Ytndgollcganhmaa.u8 r.tr :: Go.Proofs.Ytndgollcganhmaa.u8 r.st :: (sixB r.due ++ labsW r.l1) := by
  unfold Rc.bytes putW
  rw [if_pos h]
  rfl
theorem bytes_two {r : Rc} (h : r.k = 2) : r.bytes = Go.Proofs.Ytndgollcganhmaa.u8 2 :: labsW r.l7 := by
  unfold Rc.bytes putW
  rw [if_neg (by omega), if_pos h]
  rfl
theorem bytes_three {r : Rc} (h : r.k = 3) : r.bytes = Go.Proofs.Ytndgollcganhmaa.u8 3 :: (sixB r.fr ++ (sixB r.tt ++ matsW r.l10)) := by
  unfold Rc.bytes putW
  rw [if_neg (by omega), if_neg (by omega), h]
  rfl
end Go.Proofs.YtndgollcganhmaaQ.P
namespace Go.Proofs.YtndgollcganhmaaQ.P
open Go.RowKit Go.Proofs.YtndgollcganhmaaW.PrintWords Go.Proofs.Ytndgollcganhmaa
theorem cut17_l (xs : List S41) (hx : xs.length ≤ 6) (d : Nat) : ∀ (k i : Nat) (acc : List S41), i + d = xs.length → d < k → acc.length ≤ i → foghornlaw17_labels.l0 k acc xs (xs.length : Int) i = some (acc ++ (xs.drop i).map cutLS) := by
  induction d with
  | zero =>
    intro k i acc h hk ha
    obtain ⟨k, rfl⟩ : ∃ m, k = m + 1 := ⟨k - 1, by omega⟩
    simp only [foghornlaw17_labels.l0]
    rw [if_neg (by omega), drop_end (by omega)]
    simp
  | succ d ih =>
    intro k i acc h hk ha
    obtain ⟨k, rfl⟩ : ∃ m, k = m + 1 := ⟨k - 1, by omega⟩
    have hi : i < xs.length := by omega
    simp only [foghornlaw17_labels.l0]
    have e1 := mn_eq ((xs[i].f0).size : Int) 12
    have e2 := mn_eq ((xs[i].f1).size : Int) 12
    rw [rdL hi, if_pos (by omega), if_pos (by omega), if_pos (by omega), if_pos (by omega), if_pos (by omega), if_pos (by omega), if_pos (by omega), if_pos (by omega), w64s (by omega), ih k (i + 1) _ (by omega) (by omega) (by simp; omega), drop_cons hi]
    rw [cutB_mn 12 12 _ rfl, cutB_mn 12 12 _ rfl]
    simp only [cutLS, List.map_cons, List.append_assoc, List.singleton_append]
theorem cut17_f (xs : List S41) {k : Nat} (hk : 7 ≤ k) : foghornlaw17_labels.f k xs = some ((xs.take 5).map cutLS) := by
  unfold foghornlaw17_labels.f
  have e1 := mn_eq (xs.length : Int) 5
  rw [if_pos (by omega), if_pos (by omega), Option.bind_some]
  rw [take_mn 5 5 _ rfl]
  have hl : (xs.take 5).length ≤ 5 := List.length_take_le _ _
  have := cut17_l (xs.take 5) (by omega) (xs.take 5).length k 0 [] (by omega) (by omega) (by simp)
  simpa using this
theorem few17_l (xs : List S35) (hx : xs.length ≤ 6) (b0 : Int) (b1 : List S41) (b2 b3 b4 b5 b6 : Int) (b7 : List S41) (b8 b9 : Int) (b10 : List S35) (d : Nat) : ∀ (k i : Nat) (acc : List S35), i + d = xs.length → d + 7 < k → acc.length ≤ i → foghornlaw17_few.l0 k acc xs (xs.length : Int) i b0 b1 b2 b3 b4 b5 b6 b7 b8 b9 b10 = some (b0, (b1.take 5).map cutLS, b2, b3, b4, b5, b6, (b7.take 5).map cutLS, b8, b9, acc ++ (xs.drop i).map cutMS) := by
  induction d with
  | zero =>
    intro k i acc h hk ha
    obtain ⟨k, rfl⟩ : ∃ m, k = m + 1 := ⟨k - 1, by omega⟩
    simp only [foghornlaw17_few.l0]
    rw [if_neg (by omega), drop_end (by omega), cut17_f b1 (by omega), Option.bind_some, cut17_f b7 (by omega), Option.bind_some]
    simp
  | succ d ih =>
    intro k i acc h hk ha
    obtain ⟨k, rfl⟩ : ∃ m, k = m + 1 := ⟨k - 1, by omega⟩
    have hi : i < xs.length := by omega
    simp only [foghornlaw17_few.l0]
    have e1 := mn_eq ((xs[i].f1).size : Int) 12
    have e2 := mn_eq ((xs[i].f2).size : Int) 12
    rw [rdM hi, if_pos (by omega), if_pos (by omega), if_pos (by omega), if_pos (by omega), if_pos (by omega), if_pos (by omega), if_pos (by omega), if_pos (by omega), w64s (by omega), ih k (i + 1) _ (by omega) (by omega) (by simp; omega), drop_cons hi]
    rw [cutB_mn 12 12 _ rfl, cutB_mn 12 12 _ rfl]
    simp only [cutMS, List.map_cons, List.append_assoc, List.singleton_append]
theorem few17_f (b0 : Int) (b1 : List S41) (b2 b3 b4 b5 b6 : Int) (b7 : List S41) (b8 b9 : Int) (b10 : List S35) {k : Nat} (hk : 20 ≤ k) :
    ∃ r : Rc, r.sz ∧ r.l10.length ≤ 6 ∧ foghornlaw17_few.f k b0 b1 b2 b3 b4 b5 b6 b7 b8 b9 b10 = some (r.k, r.l1.map ofLab, r.rt, r.pl, r.tr, r.due, r.st, r.l7.map ofLab, r.fr, r.tt, r.l10.map ofMat) := by
  refine ⟨⟨b0, ((b1.take 5).map cutLS).map toLab, b2, b3, b4, b5, b6, ((b7.take 5).map cutLS).map toLab, b8, b9, ((b10.take 6).map cutMS).map toMat⟩, ?_, ?_, ?_⟩
  · have hc : ∀ (xs : List S41), LabsOk ((xs.map cutLS).map toLab) := by
      intro xs x hx
      simp only [List.mem_map] at hx
      obtain ⟨_, ⟨y, _, rfl⟩, rfl⟩ := hx
      have h1 := cutB_size 12 y.f0
      have h2 := cutB_size 12 y.f1
      unfold maxLen
      exact ⟨by show (cutB 12 y.f0).size ≤ _; omega, by show (cutB 12 y.f1).size ≤ _; omega⟩
    refine ⟨hc _, hc _, ?_⟩
    intro x hx
    simp only [List.mem_map] at hx
    obtain ⟨_, ⟨y, _, rfl⟩, rfl⟩ := hx
    have h1 := cutB_size 12 y.f1
    have h2 := cutB_size 12 y.f2
    unfold maxLen
    exact ⟨by show (cutB 12 y.f1).size ≤ _; omega, by show (cutB 12 y.f2).size ≤ _; omega⟩
  · simp
    omega
  · unfold foghornlaw17_few.f
    have e1 := mn_eq (b10.length : Int) 6
    rw [if_pos (by omega), if_pos (by omega), Option.bind_some]
    rw [take_mn 6 6 _ rfl]
    have hl : (b10.take 6).length ≤ 6 := List.length_take_le _ _
    have := few17_l (b10.take 6) hl b0 b1 b2 b3 b4 b5 b6 b7 b8 b9 b10 (b10.take 6).length k 0 [] (by omega) (by omega) (by simp)
    have e : ∀ xs : List S41, (xs.map toLab).map ofLab = xs := fun xs => by simp [Function.comp_def, of_to_lab]
    have e2 : ∀ xs : List S35, (xs.map toMat).map ofMat = xs := fun xs => by simp [Function.comp_def, of_to_mat]
    rw [e, e, e2]
    simpa using this
theorem labsW_num {xs : List Lab} (h : xs.length < 256) (hx : ∀ x ∈ xs, x.name.size < 256 ∧ x.value.size < 256) : numF (labsW xs, false) = (xs.length, (xs.flatMap labT2, false)) ∧ labsF xs.length [] (xs.flatMap labT2, false) = (xs, ([], false)) := by
  refine ⟨numF_u8 h _ _, ?_⟩
  have := labsF_app xs [] [] hx
  rwa [List.append_nil, List.nil_append] at this
theorem matsW_num {xs : List Mat} (h : xs.length < 256) (hx : ∀ x ∈ xs, 0 ≤ x.kind ∧ x.kind < 256 ∧ x.name.size < 256 ∧ x.value.size < 256) : numF (matsW xs, false) = (xs.length, (xs.flatMap matT2, false)) ∧ matsF xs.length [] (xs.flatMap matT2, false) = (xs, ([], false)) := by
  refine ⟨numF_u8 h _ _, ?_⟩
  have := matsF_app xs [] [] hx
  rwa [List.append_nil, List.nil_append] at this
theorem getP_put {r : Rc} (ho : r.okB = true) : getP r.bytes = (r, ([], false)) := by
  unfold getP
  rcases okB_cases ho with ⟨hk1, hd, hr⟩ | ⟨hk1, hd, hr⟩ | ⟨hk1, hd, hr⟩
  · have hq := dutyB_of hd
    have hf := labsB_few hq.2.1
    have ht := tickB_of hq.2.2.1
    have hw := labsW_num (xs := r.l1) (by omega) (fun x hx => by have := hf.2.2 x hx; omega)
    have e0 := fun t => numF_u8i (n := 1) (by omega) (by omega) t false
    have e1 := fun t => numF_u8i (n := r.rt) (by omega) (by omega) t false
    have e2 := fun t => numF_u8i (n := r.pl) (by omega) (by omega) t false
    have e3 := fun t => numF_u8i (n := r.tr) (by omega) (by omega) t false
    have e4 := fun t => numF_u8i (n := r.st) (by omega) (by omega) t false
    have e5 := fun q => timeF_app ht.1 ht.2 q false
    rw [bytes_one hk1]
    simp only [e0, Int.toNat_one, if_true, numK, e1, e2, e3, e4, e5, hw.1, hw.2]
    refine Prod.ext (Eq.trans ?_ hr.symm) rfl
    simp only [Rc.mk.injEq, true_and, and_true]
    omega
  · have hf := labsB_few hd
    have hw := labsW_num (xs := r.l7) (by omega) (fun x hx => by have := hf.2.2 x hx; omega)
    have e0 := fun t => numF_u8i (n := 2) (by omega) (by omega) t false
    rw [bytes_two hk1]
    simp only [e0, Int.reduceToNat, if_true, hw.1, hw.2]
    rw [if_neg (by omega)]
    exact Prod.ext hr.symm rfl
  · have hf := hushB_few hd
    have ht := tickB_of hf.1
    have hu := tickB_of hf.2.1
    have hw := matsW_num (xs := r.l10) (by omega) (fun x hx => by have := matB_few (hf.2.2.2.2.2 x hx); omega)
    have e0 := fun t => numF_u8i (n := 3) (by omega) (by omega) t false
    have e5 := fun q => timeF_app ht.1 ht.2 q false
    have e6 := fun q => timeF_app hu.1 hu.2 q false
    rw [bytes_three hk1]
    simp only [e0, Int.reduceToNat, if_true, e5, e6, hw.1, hw.2]
    rw [if_neg (by omega), if_neg (by omega)]
    refine Prod.ext (Eq.trans ?_ hr.symm) rfl
    simp only [Rc.mk.injEq, true_and, and_true]
    omega
theorem textF_short (r : Rst) : (textF r).1.length ≤ 255 := by
  unfold textF
  rw [takeF_len]
  exact numF_le r
theorem labsF_ok : ∀ (n : Nat) (acc : List Lab) (r : Rst), LabsOk acc → LabsOk (labsF n acc r).1
  | 0, _, _, h => h
  | n + 1, acc, r, h => by
    unfold labsF
    split
    · exact h
    · refine labsF_ok n _ _ fun x hx => ?_
      rcases List.mem_append.1 hx with hx | hx
      · exact h x hx
      · obtain rfl := List.mem_singleton.1 hx
        have h1 := textF_short r
        have h2 := textF_short (textF r).2
        unfold maxLen labF
        simp only [tx_size]
        omega
theorem matsF_ok : ∀ (n : Nat) (acc : List Mat) (r : Rst), MatsOk acc → MatsOk (matsF n acc r).1
  | 0, _, _, h => h
  | n + 1, acc, r, h => by
    unfold matsF
    split
    · exact h
    · refine matsF_ok n _ _ fun x hx => ?_
      rcases List.mem_append.1 hx with hx | hx
      · exact h x hx
      · obtain rfl := List.mem_singleton.1 hx
        have h1 := textF_short (numF r).2
        have h2 := textF_short (textF (numF r).2).2
        unfold maxLen matF
        simp only [tx_size]
        omega
theorem getP_sz (l : List UInt8) : (getP l).1.sz := by
  have nl : LabsOk [] := fun x hx => by cases hx
  have nm : MatsOk [] := fun x hx => by cases hx
  unfold getP
  simp only
  split
  · exact ⟨labsF_ok _ _ _ nl, nl, nm⟩
  · split
    · exact ⟨nl, labsF_ok _ _ _ nl, nm⟩
    · split
      · exact ⟨nl, nl, matsF_ok _ _ _ nm⟩
      · exact ⟨nl, nl, nm⟩
def getOk (l : List UInt8) : Bool := !((getP l).2.2 || !(getP l).2.1.isEmpty || !(getP l).1.okB)
theorem getOk_put {r : Rc} (ho : r.okB = true) : getOk r.bytes = true := by
  unfold getOk
  rw [getP_put ho, ho]
  rfl
def Rc.tupE (r : Rc) (e : Int) : Int × (List S41) × Int × Int × Int × Int × Int × (List S41) × Int × Int × (List S35) × Int :=
  (r.k, r.l1.map ofLab, r.rt, r.pl, r.tr, r.due, r.st, r.l7.map ofLab, r.fr, r.tt, r.l10.map ofMat, e)
theorem get_f {s : ByteArray} (hs : s.size ≤ 100000) : code_Get.f s = some (if getOk (bl s) = true then (getP (bl s)).1.tupE 0 else Rc.zero.tupE 13) := by
  unfold code_Get.f
  rw [if_pos hs, right_f (getP_sz _)]
  simp only [getOk, bl]
  by_cases hq : ((getP s.data.toList).2.2 || !(getP s.data.toList).2.1.isEmpty || !(getP s.data.toList).1.okB) = true
  · simp only [hq, if_true]
    rfl
  · have hq' : ((getP s.data.toList).2.2 || !(getP s.data.toList).2.1.isEmpty || !(getP s.data.toList).1.okB) = false := by simpa using hq
    simp only [hq', if_false]
    rfl
theorem toList_tx (l : List UInt8) : (⟨l.toArray⟩ : ByteArray).toList = l := by
  rw [ByteArray.toList_eq]
theorem alive17_f : foghornlaw17_alive.f = some true := by
  have ho : (⟨2, [], 0, 0, 0, 0, 0, [⟨⟨#[97]⟩, ⟨#[120]⟩⟩], 0, 0, []⟩ : Rc).okB = true := by decide
  have hp := put_ok (sz_of ho) ho
  have hb : (⟨2, [], 0, 0, 0, 0, 0, [⟨⟨#[97]⟩, ⟨#[120]⟩⟩], 0, 0, []⟩ : Rc).bytes = [2, 1, 1, 97, 1, 120] := by decide
  have hg := getP_put ho
  have hk := getOk_put ho
  rw [hb] at hp hg hk
  unfold foghornlaw17_alive.f
  rw [show code_Put.f 2 ([] : List S41) 0 0 0 0 0 [⟨⟨#[97]⟩, ⟨#[120]⟩⟩] 0 0 ([] : List S35) = _ from hp, Option.bind_some, get_f (by decide), Option.bind_some]
  simp only [bl]
  rw [hk, hg]
  simp only [if_true, Rc.tupE]
  rw [if_pos (by rw [toList_tx [2, 1, 1, 97, 1, 120]])]
  rfl
end Go.Proofs.YtndgollcganhmaaQ.P
namespace Go.Proofs.YtndgollcganhmaaQ.P
open Go.RowKit Go.Proofs.YtndgollcganhmaaW.PrintWords Go.Proofs.Ytndgollcganhmaa
theorem tx_toList (l : List UInt8) : (tx l).toList = l := toList_tx l
theorem put17_f {r : Rc} (h : r.sz) : code_Put.f r.k (r.l1.map ofLab) r.rt r.pl r.tr r.due r.st (r.l7.map ofLab) r.fr r.tt (r.l10.map ofMat) = some (if r.okB = true then (tx r.bytes, 0) else (tx [], 1)) := by
  cases ho : r.okB
  · exact put_no h ho
  · exact put_ok h ho
theorem right17_f {r : Rc} (h : r.sz) : code_Right.f r.k (r.l1.map ofLab) r.rt r.pl r.tr r.due r.st (r.l7.map ofLab) r.fr r.tt (r.l10.map ofMat) = some r.okB := right_f h
theorem codePuts_pure (b0 : Int) (b1 : List S41) (b2 b3 b4 b5 b6 : Int) (b7 : List S41) (b8 b9 : Int) (b10 : List S35) : foghornlaw17_CodePuts.f 51 b0 b1 b2 b3 b4 b5 b6 b7 b8 b9 b10 = some true := by
  obtain ⟨r, hs, hl, hf⟩ := few17_f b0 b1 b2 b3 b4 b5 b6 b7 b8 b9 b10 (show 20 ≤ 51 by omega)
  unfold foghornlaw17_CodePuts.f
  rw [hf, Option.bind_some]
  simp only
  rw [put17_f hs, Option.bind_some, right17_f hs, Option.bind_some, refRight_f hs (by omega) (by omega), Option.bind_some, bool_bne_self, if_neg (by simp), alive17_f, Option.bind_some]
  simp only [foghornlaw17_CodePuts.j0, Bool.not_true, Bool.false_eq_true, if_false]
  rw [refRight_f hs (by omega) (by omega), Option.bind_some]
  cases ho : r.okB
  · simp [tx_toList]
  · simp only [if_true]
    rw [refPut_f ho (by omega), Option.bind_some]
    simp
def RecK (v : Value) (w : World) (a0 : Int) (l1 : List S41) (a2 a3 a4 a5 a6 : Int) (l7 : List S41) (a8 a9 : Int) (l10 : List S35) : Prop :=
  ∃ (A1 : Option Addr) (c1 : Nat) (A7 : Option Addr) (c7 : Nat) (A10 : Option Addr) (c10 : Nat), v = .agg #[.int .i64 a0, .slice A1 l1.length c1, .int .i64 a2, .int .i64 a3, .int .i64 a4, .int .i64 a5, .int .i64 a6, .slice A7 l7.length c7, .int .i64 a8, .int .i64 a9, .slice A10 l10.length c10] ∧ l1.length ≤ c1 ∧ Kd.C k41 w A1 l1.length l1 ∧ l7.length ≤ c7 ∧ Kd.C k41 w A7 l7.length l7 ∧ l10.length ≤ c10 ∧ Kd.C k35 w A10 l10.length l10
def RecR (v : Value) (W : World) (x : Rc) : Prop := RecK v W x.k (x.l1.map ofLab) x.rt x.pl x.tr x.due x.st (x.l7.map ofLab) x.fr x.tt (x.l10.map ofMat)
theorem CodePuts_walk (v0 : Value) (x : Rc) (w : World) (h0 : RecR v0 w x) :
    Calls Try.prog 6 #[v0] w fun e w' => e = .returned (.bool true) ∧ Below w.heap.size w w' := by
  obtain ⟨A1, c1, A7, c7, A10, c10, rfl, h1, k1, h7, k7, h10, k10⟩ := h0
  exact foghornlaw17_CodePuts.calls 51 x.k A1 c1 (x.l1.map ofLab) x.rt x.pl x.tr x.due x.st A7 c7 (x.l7.map ofLab) x.fr x.tt A10 c10 (x.l10.map ofMat) true w k1 h1 k7 h7 k10 h10 (codePuts_pure ..)
end Go.Proofs.YtndgollcganhmaaQ.P
namespace Go.Proofs.Ytndgollcganhmaa
open Go.RowKit Go.ChangeShapes Go.WideShapes Go.ChangeAt Go.Proofs.YtndgollcganhmaaW.PrintWords
def Opens (P : Program) (W : World) (t : TypeId) {α : Type} (d : Kd α) (Q : α → Prop) : Prop :=
  ∀ {H : Type} (enc : TypeId × Value → H) (base : Nat) (spare : Nat → Bool) (held : Bool) (fuel : Nat) (cs : List Value) (y : DataW H × List MemPlace), DataW.trod enc P W base spare held fuel t cs = some y → cs.length = d.sz → ∃ x, d.K W x cs ∧ Q x
def OpensL (P : Program) (W : World) (fs : List Field) (o : Nat) {α : Type} (d : Kd α) (Q : α → Prop) : Prop :=
  ∀ {H : Type} (enc : TypeId × Value → H) (base : Nat) (spare : Nat → Bool) (held : Bool) (cs : List Value), (∀ (j : Nat) (f : Field), fs[j]? = some f → ∃ fuel y, DataW.trod enc P W base spare held fuel f.type ((cs.drop (f.offset - o)).take (P.cellsOf f.type)) = some y) → cs.length = d.sz → ∃ x, d.K W x cs ∧ Q x
section
variable {P : Program} {W : World} {t e : TypeId} {α β : Type} {d : Kd α} {Q : α → Prop}
theorem opens_int {k : IntKind} (ht : P.underlying t = some (.int k)) : Opens P W t (Kd.int k) (fun n => (Lit.int k n).wf = true) := by
  intro H enc base spare held fuel cs y h _
  obtain ⟨n, rfl, _, hw⟩ := DataW.trod_int ht h
  exact ⟨n, rfl, hw⟩
theorem opens_string (ht : P.underlying t = some .string) : Opens P W t Kd.string (fun s => s.size ≤ maxLen) := by
  intro H enc base spare held fuel cs y h _
  obtain ⟨n, rfl, _, hw⟩ := DataW.trod_string ht h
  exact ⟨n, rfl, hw⟩
theorem opens_C (hc : P.cellsOf e = d.sz) (h0 : 0 < d.sz) (h : Opens P W e d Q) {H : Type} {enc : TypeId × Value → H} {base : Nat} {spare : Nat → Bool} {held : Bool} {p : List MemPlace} {dd : DataW H} (ht : P.underlying t = some (.slice e)) {v : Value} (ht2 : DataW.Trod enc P W base spare held t v dd p) (hv : ∃ a l c, v = .slice a l c) :
    ∃ (xs : List α) (A : Option Addr) (c : Nat), v = .slice A xs.length c ∧ xs.length ≤ c ∧ d.C W A xs.length xs ∧ ∀ x ∈ xs, Q x := by
  obtain ⟨n, cells, hS, hel⟩ := sl_of_trod ht hc h0 ht2 hv
  have hx : ∀ i, i < n → ∃ x, d.K W x ((cells.drop (i * d.sz)).take d.sz) ∧ Q x := by
    intro i hi
    obtain ⟨f, y, hy⟩ := hel i hi
    refine h enc base spare held f _ y hy ?_
    have hle : i * d.sz + d.sz ≤ n * d.sz := by rw [← Nat.succ_mul]; exact Nat.mul_le_mul_right _ hi
    rw [List.length_take, List.length_drop, hS.1]
    omega
  have hxs : ∀ m, m ≤ n → ∃ xs : List α, xs.length = m ∧ ∀ i x, xs[i]? = some x → d.K W x ((cells.drop (i * d.sz)).take d.sz) ∧ Q x := by
    intro m
    induction m with
    | zero => exact fun _ => ⟨[], rfl, fun i x hx => by simp at hx⟩
    | succ m ih =>
      intro hm
      obtain ⟨xs, hl, hq⟩ := ih (by omega)
      obtain ⟨x, hk, hqx⟩ := hx m (by omega)
      refine ⟨xs ++ [x], by simp [hl], fun i y hy => ?_⟩
      rcases Nat.lt_or_ge i xs.length with hi | hi
      · rw [List.getElem?_append_left hi] at hy
        exact hq i y hy
      · rw [List.getElem?_append_right hi] at hy
        obtain ⟨h1, h2⟩ := List.getElem?_eq_some_iff.1 hy
        have hi2 : i = m := by simp at h1; omega
        subst hi2
        simp at h2
        subst h2
        exact ⟨hk, hqx⟩
  obtain ⟨xs, hl, hq⟩ := hxs n (Nat.le_refl _)
  obtain ⟨a, c, hv2, hnc, hnm⟩ := hS.form
  subst hv2
  subst hl
  refine ⟨xs, a, c, rfl, hnc, ⟨rfl, by unfold maxLen at hnm; omega, fun hp => ?_⟩, fun x hx => ?_⟩
  · obtain ⟨b, o, rfl, _, hcell⟩ := hS.at hp
    refine ⟨_, rfl, fun j p hj => ⟨_, ?_, (hq j p hj).1, fun i u hu => ?_⟩⟩
    · exact d.K_len (hq j p hj).1
    · rw [List.getElem?_take] at hu
      split at hu
      · rw [List.getElem?_drop] at hu
        rw [add_off]
        exact hcell _ _ hu
      · cases hu
  · obtain ⟨i, hi, rfl⟩ := List.mem_iff_getElem.1 hx
    exact (hq i _ (List.getElem?_eq_getElem hi)).2
theorem opens_slice (ht : P.underlying t = some (.slice e)) (hc : P.cellsOf e = d.sz) (h0 : 0 < d.sz) (h : Opens P W e d Q) : Opens P W t (Kd.slice e d) (fun xs => ∀ x ∈ xs, Q x) := by
  intro H enc base spare held fuel cs y hy hl
  obtain ⟨u, rfl⟩ : ∃ u, cs = [u] := by
    match cs, hl with
    | [u], _ => exact ⟨u, rfl⟩
  obtain ⟨hv, h2⟩ := slice_of_trod ht hy
  obtain ⟨xs, A, c, rfl, h3, h4, h5⟩ := opens_C hc h0 h ht h2 hv
  exact ⟨xs, ⟨A, c, rfl, h3, h4⟩, h5⟩
theorem opensL_one {f : Field} (h : Opens P W f.type d Q) (hc : P.cellsOf f.type = d.sz) : OpensL P W [f] f.offset d Q := by
  intro H enc base spare held cs hf hl
  obtain ⟨fuel, y, hy⟩ := hf 0 f rfl
  rw [Nat.sub_self, List.drop_zero, hc, List.take_of_length_le (by omega)] at hy
  exact h enc base spare held fuel cs y hy hl
theorem opensL_cons {f : Field} {fs : List Field} {b : Kd β} {Qb : β → Prop} (h : Opens P W f.type d Q) (hc : P.cellsOf f.type = d.sz) (hs : OpensL P W fs (f.offset + d.sz) b Qb) (ho : (fs.all fun g => decide (f.offset + d.sz ≤ g.offset)) = true) :
    OpensL P W (f :: fs) f.offset (Kd.pair d b) (fun x => Q x.1 ∧ Qb x.2) := by
  intro H enc base spare held cs hf hl
  have hl' : cs.length = d.sz + b.sz := hl
  obtain ⟨fuel, y, hy⟩ := hf 0 f rfl
  rw [Nat.sub_self, List.drop_zero, hc] at hy
  obtain ⟨x, hk, hq⟩ := h enc base spare held fuel _ y hy (by rw [List.length_take]; omega)
  obtain ⟨z, hkz, hqz⟩ := hs enc base spare held (cs.drop d.sz) (fun j g hg => by
    obtain ⟨fuel, y, hy⟩ := hf (j + 1) g (by simpa using hg)
    have hog : f.offset + d.sz ≤ g.offset := by simpa using List.all_eq_true.1 ho g (List.mem_of_getElem? hg)
    refine ⟨fuel, y, ?_⟩
    rw [List.drop_drop, show d.sz + (g.offset - (f.offset + d.sz)) = g.offset - f.offset by omega]
    exact hy) (by rw [List.length_drop]; omega)
  exact ⟨(x, z), ⟨_, _, (List.take_append_drop d.sz cs).symm, hk, hkz⟩, hq, hqz⟩
theorem opens_struct {fs : Array Field} (ht : P.underlying t = some (.struct fs)) (h : OpensL P W fs.toList 0 d Q) : Opens P W t d Q := by
  intro H enc base spare held fuel cs y hy hl
  obtain ⟨xs, n, _, _, _, hlx, hx⟩ := DataW.trod_struct ht hy
  refine h enc base spare held cs (fun j f hf => ?_) hl
  have hf' : fs[j]? = some f := by simpa using hf
  have h1 := hx j f hf'
  have hj : j < xs.length := by rw [hlx]; exact (Array.getElem?_eq_some_iff.1 hf').1
  rw [List.getElem?_eq_getElem hj] at h1
  exact ⟨n, _, h1⟩
theorem opens_iso {f : β → α} {g : α → β} (hfg : ∀ x, f (g x) = x) (h : Opens P W t d Q) : Opens P W t (Kd.iso d f) (fun y => Q (f y)) := by
  intro H enc base spare held fuel cs y hy hl
  obtain ⟨x, hk, hq⟩ := h enc base spare held fuel cs y hy hl
  exact ⟨g x, (by show d.K W (f (g x)) cs; rw [hfg]; exact hk), (by show Q (f (g x)); rw [hfg]; exact hq)⟩
theorem Opens.imp {Q' : α → Prop} (h : Opens P W t d Q) (hq : ∀ x, Q x → Q' x) : Opens P W t d Q' := by
  intro H enc base spare held fuel cs y hy hl
  obtain ⟨x, hk, hx⟩ := h enc base spare held fuel cs y hy hl
  exact ⟨x, hk, hq x hx⟩
theorem arg_struct (h : Opens P W t d Q) {fs : Array Field} (hc : P.cellsOf t = d.sz) {H : Type} {enc : TypeId × Value → H} {r : Reach} {base bb : Nat} {spare : Nat → Bool} {held : Bool} {p : List MemPlace} {dd : DataW H} (ht : P.underlying t = some (.struct fs)) {v : Value} (hv : Value.okWide P W r bb t v) (h2 : DataW.Trod enc P W base spare held t v dd p) :
    ∃ x : α, (∃ cs : List Value, v = .agg cs.toArray ∧ d.K W x cs) ∧ Q x := by
  obtain ⟨cs, rfl, hsz⟩ := okWide_struct ht hv
  obtain ⟨fuel, hf⟩ := h2
  obtain ⟨x, hk, hq⟩ := h enc base spare held fuel cs.toList _ hf (by simpa [hc] using hsz)
  exact ⟨x, ⟨cs.toList, by simp, hk⟩, hq⟩
end
end Go.Proofs.Ytndgollcganhmaa
namespace Go.Proofs.YtndgollcganhmaaQ.P
open Go.RowKit Go.ChangeShapes Go.WideShapes Go.ChangeAt Go.Proofs.YtndgollcganhmaaW.PrintWords Go.Proofs.Ytndgollcganhmaa
theorem opensLab (W : World) : Opens Try.prog W 41 k41 (fun x => x.f0.size ≤ maxLen ∧ x.f1.size ≤ maxLen) :=
  opens_iso (g := fun x => ⟨x.1, x.2⟩) (fun _ => rfl) (opens_struct Try.underlying41 (opensL_cons (opens_string Try.underlying9) (by kernel_rfl) (opensL_one (opens_string Try.underlying9) (by kernel_rfl)) (by rfl)))
section
variable {W : World} {H : Type} {enc : TypeId × Value → H} {r : Reach} {base bb : Nat} {spare : Nat → Bool} {held : Bool} {p : List MemPlace} {dd : DataW H} {v : Value}
end
end Go.Proofs.YtndgollcganhmaaQ.P
namespace Go.Proofs.YtndgollcganhmaaQ.P
open Go.RowKit Go.ChangeShapes Go.WideShapes Go.ChangeAt Go.Proofs.YtndgollcganhmaaW.PrintWords Go.Proofs.Ytndgollcganhmaa
theorem opensMat (W : World) : Opens Try.prog W 35 k35 (fun x => (Lit.int .i64 x.f0).wf = true ∧ x.f1.size ≤ maxLen ∧ x.f2.size ≤ maxLen) :=
  opens_iso (g := fun x => ⟨x.1, x.2.1, x.2.2⟩) (fun _ => rfl) (opens_struct Try.underlying35 (opensL_cons (opens_int Try.underlying3) (by kernel_rfl) (opensL_cons (opens_string Try.underlying9) (by kernel_rfl) (opensL_one (opens_string Try.underlying9) (by kernel_rfl)) (by rfl)) (by rfl)))
section
variable {W : World} {H : Type} {enc : TypeId × Value → H} {r : Reach} {base bb : Nat} {spare : Nat → Bool} {held : Bool} {p : List MemPlace} {dd : DataW H} {v : Value}
end
end Go.Proofs.YtndgollcganhmaaQ.P
namespace Go.Proofs.YtndgollcganhmaaQ.P
open Go.RowKit Go.ChangeShapes Go.WideShapes Go.ChangeAt Go.Proofs.YtndgollcganhmaaW.PrintWords Go.Proofs.Ytndgollcganhmaa
section
variable {W : World} {H : Type} {enc : TypeId × Value → H} {r : Reach} {base bb : Nat} {spare : Nat → Bool} {held : Bool} {p : List MemPlace} {dd : DataW H} {v : Value}
def kDuty : Kd (List S41 × Int × Int × Int × Int × Int) := Kd.pair (Kd.slice 41 k41) (Kd.pair (Kd.int .i64) (Kd.pair (Kd.int .i64) (Kd.pair (Kd.int .i64) (Kd.pair (Kd.int .i64) (Kd.int .i64)))))
def kHush : Kd (Int × Int × List S35) := Kd.pair (Kd.int .i64) (Kd.pair (Kd.int .i64) (Kd.slice 35 k35))
theorem opensLabs (W : World) : Opens Try.prog W 22 (Kd.slice 41 k41) (fun xs => ∀ x ∈ xs, x.f0.size ≤ maxLen ∧ x.f1.size ≤ maxLen) := opens_slice Try.underlying22 (by kernel_rfl) (by decide) (opensLab W)
theorem opensMats (W : World) : Opens Try.prog W 23 (Kd.slice 35 k35) (fun xs => ∀ x ∈ xs, (Lit.int .i64 x.f0).wf = true ∧ x.f1.size ≤ maxLen ∧ x.f2.size ≤ maxLen) := opens_slice Try.underlying23 (by kernel_rfl) (by decide) (opensMat W)
theorem anyO {P : Program} {W : World} {t : TypeId} {α : Type} {d : Kd α} {Q : α → Prop} (h : Opens P W t d Q) : Opens P W t d (fun _ => True) := h.imp fun _ _ => trivial
theorem opensI (W : World) : Opens Try.prog W 3 (Kd.int .i64) (fun _ => True) := anyO (opens_int Try.underlying3)
theorem opensDuty (W : World) : Opens Try.prog W 46 kDuty (fun _ => True) :=
  anyO (opens_struct Try.underlying46 (opensL_cons (opensLabs W) (by kernel_rfl) (opensL_cons (opensI W) (by kernel_rfl) (opensL_cons (opensI W) (by kernel_rfl) (opensL_cons (opensI W) (by kernel_rfl) (opensL_cons (opensI W) (by kernel_rfl) (opensL_one (opensI W) (by kernel_rfl)) (by rfl)) (by rfl)) (by rfl)) (by rfl)) (by rfl)))
theorem opensHush (W : World) : Opens Try.prog W 48 kHush (fun _ => True) :=
  anyO (opens_struct Try.underlying48 (opensL_cons (opensI W) (by kernel_rfl) (opensL_cons (opensI W) (by kernel_rfl) (opensL_one (opensMats W) (by kernel_rfl)) (by rfl)) (by rfl)))
theorem opensRec (W : World) : Opens Try.prog W 50 (Kd.pair (Kd.int .i64) (Kd.pair kDuty (Kd.pair (Kd.slice 41 k41) kHush))) (fun _ => True) :=
  anyO (opens_struct Try.underlying50 (opensL_cons (opensI W) (by kernel_rfl) (opensL_cons (opensDuty W) (by kernel_rfl) (opensL_cons (opensLabs W) (by kernel_rfl) (opensL_one (opensHush W) (by kernel_rfl)) (by rfl)) (by rfl)) (by rfl)))
set_option maxRecDepth 100000 in
theorem argRec (hv : Value.okWide Try.prog W r bb 50 v) (h2 : DataW.Trod enc Try.prog W base spare held 50 v dd p) :
    ∃ x : Rc, RecR v W x := by
  obtain ⟨⟨a0, ⟨l1, a2, a3, a4, a5, a6⟩, l7, a8, a9, l10⟩, ⟨cs, rfl, hk⟩, _⟩ := arg_struct (opensRec W) (by kernel_rfl) Try.underlying50 hv h2
  obtain ⟨_, _, rfl, rfl, _, _, rfl, ⟨_, _, rfl, ⟨A1, c1, rfl, h1, k1⟩, _, _, rfl, rfl, _, _, rfl, rfl, _, _, rfl, rfl, _, _, rfl, rfl, rfl⟩, _, _, rfl, ⟨A7, c7, rfl, h7, k7⟩, _, _, rfl, rfl, _, _, rfl, rfl, A10, c10, rfl, h10, k10⟩ := hk
  have e : ∀ xs : List S41, (xs.map toLab).map ofLab = xs := fun xs => by simp [Function.comp_def, of_to_lab]
  have e2 : ∀ xs : List S35, (xs.map toMat).map ofMat = xs := fun xs => by simp [Function.comp_def, of_to_mat]
  refine ⟨⟨a0, l1.map toLab, a2, a3, a4, a5, a6, l7.map toLab, a8, a9, l10.map toMat⟩, ?_⟩
  unfold RecR
  simp only [e, e2]
  exact ⟨A1, c1, A7, c7, A10, c10, rfl, h1, k1, h7, k7, h10, k10⟩
end
end Go.Proofs.YtndgollcganhmaaQ.P
namespace Go.Proofs.Ytndgollcganhmaa.codePuts
open Go.ChangeShapes Go.WideShapes Go.ChangeAt Go.RowKit Go.Proofs.YtndgollcganhmaaQ.P
open Go.ChangeMaps (open_string shut_string)
theorem own : ownKnob Try.prog.godebug = none := by kernel_rfl
theorem laidOut : laidOutB Try.prog = true := by kernel_rfl
set_option maxRecDepth 100000 in
theorem lifted (os : Os) (started : os.Started) (H : Type) (enc : TypeId × Value → H) :
    ReturnsInHanded {} Try.checked os 6 .any (Rows.codePutsSpec.pre6 enc Try.prog Try.f6 Rows.codePutsRow.domain false) (Rows.codePutsSpec.post enc Try.prog Try.f6 false true false false) := by
  refine returnsInHanded_of_change (C := Try.checked) own started (by kernel_rfl) Try.func6
    (ChangeSpec.witness6 (enc := enc) (C := Try.checked) false ⟨#[], #[.agg #[.int .i64 0, .slice none 0 0, .int .i64 0, .int .i64 0, .int .i64 0, .int .i64 0, .int .i64 0, .slice none 0 0, .int .i64 0, .int .i64 0, .slice none 0 0]], []⟩ 8 (by kernel_rfl) (by kernel_rfl) (by kernel_rfl) (by kernel_rfl)) ?_
  intro W base args ds gs before hval0 hW hcnd _
  have hval : ∀ (j : Nat) t v, Try.f6.params[j]? = some t → args[j]? = some v → Value.okWide Try.prog W .any base t v := hval0
  have hW' := hW
  obtain ⟨p, q, hA0, hV, rfl, hfz, hnd⟩ := hW
  have hA : DataW.TrodAll enc Try.prog W 0 (fun _ => true) true Try.f6.params.toList args.toList ds p := hA0
  rw [Try.params6] at hA hval
  obtain ⟨v0, vs0, d0, ds0, p0, q0, hargs, rfl, rfl, h0, r0⟩ := trodAll_cons hA
  obtain ⟨rfl, rfl, rfl⟩ := trodAll_nil r0
  obtain rfl : args = #[v0] := by cases args; simp_all
  obtain ⟨rfl, rfl⟩ := trodVars_none hV
  have lt0 : ∀ x ∈ p0, x.block < W.heap.size := by obtain ⟨m, hm⟩ := h0; exact DataW.trod_lt m _ _ _ hm
  have k0 := h0
  obtain ⟨a0, w0⟩ := argRec (hval 0 50 v0 rfl rfl) h0
  clear hA0 hval0
  refine (CodePuts_walk v0 a0 W w0).mono fun e W' ⟨he, bel⟩ => ?_
  subst he
  exact ⟨_, rfl, _, _, _, [], _, [], hW', trodAll_mk1 (shut_bool Try.underlying4 _), (trodAll_cons_mk (Below.trod laidOut (by kernel_rfl) (of_decide_eq_true (by kernel_rfl)) k0 bel lt0) trodAll_mk0), rfl, bel.frame _, fun h => by cases h⟩
theorem over : Rows.codePutsRow.holds Try.pinned (OpenSpec.ofChange Rows.codePutsSpec) :=
  OpenClaim.holds_of_wide 6 Try.f6 rfl rfl rfl rfl rfl rfl rfl ⟨rfl, rfl, rfl, rfl, rfl⟩ rfl rfl rfl rfl rfl (by kernel_rfl) Try.func6 (by kernel_rfl)
    (of_decide_eq_true (by kernel_rfl)) (by unfold Func.isWrapper; first | (rw [if_pos (by decide +kernel)]; kernel_rfl) | (rw [if_neg (by decide +kernel)]; exact ⟨rfl, rfl⟩))
    (fun os started H enc _ => lifted os started H enc)
end Go.Proofs.Ytndgollcganhmaa.codePuts
namespace Go.Proofs.Ytndgollcganhmaa
theorem codePuts_holds : Rows.CodePutsSaid := codePuts.over
#print axioms codePuts_holds
end Go.Proofs.Ytndgollcganhmaa
