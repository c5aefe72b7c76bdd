/- Contracts of cmp.Compare, label.order, each, Right, Matcher. -/
import Derived.Test.YtkhocnaocndkjaaC10i
import Derived.WalkLawsBesides
import Derived.WalkSpells
set_option linter.unusedVariables false
set_option linter.unusedSimpArgs false
namespace Go.Proofs.Ytkhocnaocndkjaa
open Go.RowKit
attribute [local go_sem high] ext_size ext_cell ext_frozen alloc_cell alloc_frozen
theorem compare_any (s t : ByteArray) (w : World) :
    Calls Try.prog 86 #[.string s, .string t] w fun e w' => e = .returned (.int .i64 (cmpS s t)) ∧ w = w' := by
  unfold cmpS ltS
  go_enter Try.func86, Try.ntmps86
  go_wp2
  all_goals
    go_ret
    exact ⟨ret_int (by simp_all), rfl⟩
/-- A list of labels whose texts are no longer than a text may be. -/
def LabsOk (xs : List Lab) : Prop := ∀ x ∈ xs, x.name.size ≤ maxLen ∧ x.value.size ≤ maxLen
theorem order_any (x y : Lab) (w : World) :
    Calls Try.prog 58 #[labV x, labV y] w fun e w' => e = .returned (.int .i64 (cmpS x.name y.name)) ∧ Below w.heap.size w w' := by
  obtain ⟨n, v⟩ := x
  obtain ⟨n2, v2⟩ := y
  unfold labV
  have H := Lib.hid fun W => same_bel (compare_any n n2 W)
  go_enter Try.func58, Try.ntmps58
  go_wp2_with fail
  refine (H.out _).mono ?_
  rintro e w' ⟨rfl, hb⟩
  obtain ⟨y1, rfl⟩ := ext_of hb
  clear hb
  go_wp2_with fail
  go_ret
  exact ⟨rfl, (by repeat (first | exact Below.refl _ _ | apply bal | apply bext | apply bdr | apply bdrN | (refine bst ?_ _ (by simp only [ext_size, size_alloc, size_set]; omega))))⟩
theorem each1_any (x : Lab) (w : World) (h1 : x.name.size ≤ maxLen) (h2 : x.value.size ≤ maxLen) :
    Calls Try.prog 82 #[labV x] w fun e w' => e = .returned (.bool (!labB x)) ∧ Below w.heap.size w w' := by
  have H := Lib.hid fun W => isLabel_any x W h1 h2
  obtain ⟨n, v⟩ := x
  obtain ⟨b, hb⟩ : ∃ b, b = labB ⟨n, v⟩ := ⟨_, rfl⟩
  rw [← hb] at H ⊢
  unfold labV at *
  clear hb
  go_enter Try.func82, Try.ntmps82
  go_wp2_with fail
  refine (H.out _).mono ?_
  rintro e w' ⟨rfl, hb⟩
  obtain ⟨y1, rfl⟩ := ext_of hb
  clear hb
  go_wp2_with fail
  go_ret
  exact ⟨rfl, (by repeat (first | exact Below.refl _ _ | apply bal | apply bext | apply bdr | apply bdrN | (refine bst ?_ _ (by simp only [ext_size, size_alloc, size_set]; omega))))⟩
theorem each_any (v : Value) (xs : List Lab) (w : World) (hS : SlAt w v 2 xs.length (labsC xs)) (hL : LabsOk xs) :
    Calls Try.prog 55 #[v] w fun e w' => e = .returned (.bool (eachB xs)) ∧ Below w.heap.size w w' := by
  obtain ⟨a, c, rfl, hnc, hcm⟩ := hS.form
  have hen : Enters Try.prog 82 := enters_of Try.func82 (by kernel_rfl) rfl
  have H := Lib.hid (containsFuncL _ xs _ #[] (fun x => !labB x) w hS (fun x hx W _ => each1_any x W (hL x hx).1 (hL x hx).2) hen)
  obtain ⟨q, hq⟩ : ∃ q, q = xs.any (fun x => !labB x) := ⟨_, rfl⟩
  unfold eachB
  rw [← hq] at H ⊢
  clear hq hS hen
  by_cases c1 : 1 ≤ xs.length ∧ xs.length ≤ 3
  · obtain ⟨c1, c2⟩ := c1
    go_enter Try.func55, Try.ntmps55
    go_wp2_with fail
    refine (H.out).mono ?_
    rintro e w' ⟨rfl, hb⟩
    obtain ⟨y1, rfl⟩ := ext_of hb
    clear hb
    go_wp2_with fail
    go_ret
    exact ⟨ret_bool (by rw [decide_eq_true c1, decide_eq_true c2]; rfl), (by repeat (first | exact Below.refl _ _ | apply bal | apply bext | apply bdr | apply bdrN | (refine bst ?_ _ (by simp only [ext_size, size_alloc, size_set]; omega))))⟩
  · have hr : (decide (1 ≤ xs.length) && decide (xs.length ≤ 3)) = false := by simp; omega
    rcases (show xs.length < 1 ∨ 3 < xs.length by omega) with c2 | c2
    all_goals
      first | (have c3 : 1 ≤ xs.length := by omega) | skip
      go_enter Try.func55, Try.ntmps55
      go_wp2_with fail
      go_ret
      exact ⟨ret_bool (by first | rfl | (rw [decide_eq_false (p := xs.length ≤ 3) (by omega)]; rfl)), (by repeat (first | exact Below.refl _ _ | apply bal | apply bext | apply bdr | apply bdrN | (refine bst ?_ _ (by simp only [ext_size, size_alloc, size_set]; omega))))⟩
theorem labRight_any (v : Value) (xs : List Lab) (w : World) (hS : SlAt w v 2 xs.length (labsC xs)) (hL : LabsOk xs) :
    Calls Try.prog 24 #[v] w fun e w' => e = .returned (.bool (labsB xs)) ∧ Below w.heap.size w w' := by
  obtain ⟨a, c, rfl, hnc, hcm⟩ := hS.form
  have hm := hS.le
  have HS := Lib.hid hS
  have HE := Lib.hid fun W (h : SlAt W (Value.slice a xs.length c) 2 xs.length (labsC xs)) => each_any _ xs W h hL
  unfold maxLen at hm
  clear hS hL
  go_enter Try.func24, Try.ntmps24
  go_wp2
  go_loopw [3] (fun i wr => ∃ j : Nat, (j = 0 ∨ j + 1 ≤ xs.length) ∧ i = .int .i64 (j + 1) ∧ (∀ q (h : q + 1 < xs.length), q < j → ltS xs[q].name xs[q + 1].name = true) ∧ Below w.heap.size w wr) (fun i _ => xs.length - (intOf i).toNat)
  case atStart => exact ⟨0, .inl rfl, rfl, fun q _ h => absurd h (by omega), Below.refl _ _⟩
  case round =>
    obtain ⟨j, hj, rfl, hall, hbel⟩ := hrel
    have HA := Lib.hid hall
    clear hall
    obtain ⟨xr, rfl⟩ := ext_of hbel
    clear hbel
    by_cases hlt : j + 1 < xs.length
    · obtain ⟨b, o, rfl, hbl, hcell⟩ := HS.out.at (by omega)
      have g0 := labs_get xs j (by omega)
      have g1 := labs_get xs (j + 1) hlt
      have k0 : w.cell? ⟨b, o + j * 2, none⟩ = some (.string xs[j].name) := hcell _ _ g0.1
      have k1 : w.cell? ⟨b, o + j * 2 + 1, none⟩ = some (.string xs[j].value) := by rw [Nat.add_assoc]; exact hcell _ _ g0.2
      have k2 : w.cell? ⟨b, o + (j + 1) * 2, none⟩ = some (.string xs[j + 1].name) := hcell _ _ g1.1
      have k3 : w.cell? ⟨b, o + (j + 1) * 2 + 1, none⟩ = some (.string xs[j + 1].value) := by rw [Nat.add_assoc]; exact hcell _ _ g1.2
      clear hcell g0 g1
      obtain ⟨x, hx⟩ : ∃ x, x = xs[j] := ⟨_, rfl⟩
      obtain ⟨y, hy⟩ : ∃ y, y = xs[j + 1] := ⟨_, rfl⟩
      rw [← hx] at k0 k1
      rw [← hy] at k2 k3
      have HX := Lib.hid hx
      have HY := Lib.hid hy
      have HO := Lib.hid fun W => order_any x y W
      unfold labV at HO
      have i0 : (0 : Int) ≤ (j : Int) + 1 - 1 := by omega
      have i1 : ((j : Int) + 1) < (xs.length : Int) := by omega
      clear hx hy
      obtain ⟨q, hq⟩ : ∃ q, q = cmpS x.name y.name := ⟨_, rfl⟩
      rw [← hq] at HO
      cases hlt' : ltS x.name y.name
      · have hge : 0 ≤ q := by rw [hq]; exact cmpS_ge hlt'
        have HLT := Lib.hid hlt'
        clear hq hlt'
        go_wp2
        refine wp_region_ext (by kernel_rfl) (by kernel_rfl) ?_
        repeat (go_big_quiet_step ((first | (go_at_call 58; exact Calls.grew (HO.out _)))))
        refine wpQuiet_nil ?_
        intro _ hw'
        obtain ⟨y1, rfl⟩ := hw'
        go_wp2
        go_ret
        refine ⟨ret_bool ?_, (by repeat (first | exact Below.refl _ _ | apply bal | apply bext | apply bdr | apply bdrN | (refine bst ?_ _ (by simp only [ext_size, size_alloc, size_set]; omega))))⟩
        unfold labsB
        rw [rises_bad hlt (by rw [← HX.out, ← HY.out]; exact HLT.out)]
        rfl
      · have hge : q = -1 := by rw [hq]; exact cmpS_lt hlt'
        have HLT := Lib.hid hlt'
        clear hq hlt'
        subst hge
        go_wp2
        refine wp_region_ext (by kernel_rfl) (by kernel_rfl) ?_
        repeat (go_big_quiet_step ((first | (go_at_call 58; exact Calls.grew (HO.out _)))))
        refine wpQuiet_nil ?_
        intro _ hw'
        obtain ⟨y1, rfl⟩ := hw'
        go_wp2
        refine ⟨⟨j + 1, .inr (by omega), by go_num, fun q hq hqj => ?_, (by repeat (first | exact Below.refl _ _ | apply bal | apply bext | apply bdr | apply bdrN | (refine bst ?_ _ (by simp only [ext_size, size_alloc, size_set]; omega))))⟩, by simp [intOf]; omega⟩
        rcases Nat.lt_succ_iff_lt_or_eq.1 hqj with h | rfl
        · exact HA.out q hq h
        · rw [← HX.out, ← HY.out]
          exact HLT.out
    · have hr : risesB xs = true := rises_all fun q hq => HA.out q hq (by omega)
      have HR := Lib.hid hr
      clear hr
      go_wp2_with fail
      refine (HE.out _ (HS.out.stay (by repeat (first | exact Below.refl _ _ | apply bal | apply bext | apply bdr | apply bdrN | (refine bst ?_ _ (by simp only [ext_size, size_alloc, size_set]; omega)))))).mono ?_
      rintro e w1 ⟨rfl, hb1⟩
      obtain ⟨y1, rfl⟩ := ext_of hb1
      go_wp2
      go_ret
      refine ⟨ret_bool ?_, (by repeat (first | exact Below.refl _ _ | apply bal | apply bext | apply bdr | apply bdrN | (refine bst ?_ _ (by simp only [ext_size, size_alloc, size_set]; omega))))⟩
      unfold labsB
      rw [HR.out]
      rfl
end Go.Proofs.Ytkhocnaocndkjaa
