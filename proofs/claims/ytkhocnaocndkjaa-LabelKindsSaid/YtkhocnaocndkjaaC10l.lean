/- Contract of label.All. -/
import Derived.Test.YtkhocnaocndkjaaC10k
set_option linter.unusedVariables false
set_option linter.unusedSimpArgs false
namespace Go.Proofs.Ytkhocnaocndkjaa
open Go.RowKit
attribute [local go_sem high] ext_size ext_cell ext_frozen alloc_cell alloc_frozen
theorem all1_any (x : Mat) (w : World) (h1 : x.name.size ≤ maxLen) (h2 : x.value.size ≤ maxLen) :
    Calls Try.prog 60 #[matV x] w fun e w' => e = .returned (.bool (!matB x)) ∧ Below w.heap.size w w' := by
  have H := Lib.hid fun W => matcher_any x W h1 h2
  obtain ⟨k, n, v⟩ := x
  obtain ⟨b, hb⟩ : ∃ b, b = matB ⟨k, n, v⟩ := ⟨_, rfl⟩
  rw [← hb] at H ⊢
  unfold matV at *
  clear hb
  go_enter Try.func60, Try.ntmps60
  go_wp2_with fail
  refine (H.out _).mono ?_
  rintro e w' ⟨rfl, hb⟩
  obtain ⟨y1, rfl⟩ := ext_of hb
  clear hb
  go_wp2_with fail
  go_ret
  exact ⟨rfl, (by repeat (first | exact Below.refl _ _ | apply bal | apply bext | apply bdr | apply bdrN | (refine bst ?_ _ (by simp only [ext_size, size_alloc, size_set]; omega))))⟩
theorem all2_any (x : Mat) (g : Nat) (v : Value) (xs : List Lab) (w : World) (hk : 0 ≤ x.kind ∧ x.kind ≤ 3) (hc : w.cell? ⟨g, 0, none⟩ = some v) (hg : g < w.heap.size) (hS : SlAt w v 2 xs.length (labsC xs)) :
    Calls Try.prog 61 #[matV x, .pointer (some ⟨g, 0, none⟩)] w fun e w' => e = .returned (.bool (!matchB x xs)) ∧ Below w.heap.size w w' := by
  obtain ⟨a, c, rfl, hnc, hcm⟩ := hS.form
  have H := Lib.hid fun W (h : SlAt W (Value.slice a xs.length c) 2 xs.length (labsC xs)) => match_any x _ xs W hk h
  have HS := Lib.hid hS
  obtain ⟨k, n, v⟩ := x
  obtain ⟨b, hb⟩ : ∃ b, b = matchB ⟨k, n, v⟩ xs := ⟨_, rfl⟩
  rw [← hb] at H ⊢
  unfold matV at *
  clear hb hS hk
  go_enter Try.func61, Try.ntmps61
  go_wp2_with fail
  refine (H.out _ (HS.out.stay (by repeat (first | exact Below.refl _ _ | apply bal | apply bext | apply bdr | apply bdrN | (refine bst ?_ _ (by simp only [ext_size, size_alloc, size_set]; omega)))))).mono ?_
  rintro e w' ⟨rfl, hb⟩
  obtain ⟨y1, rfl⟩ := ext_of hb
  clear hb
  go_wp2_with fail
  go_ret
  exact ⟨rfl, (by repeat (first | exact Below.refl _ _ | apply bal | apply bext | apply bdr | apply bdrN | (refine bst ?_ _ (by simp only [ext_size, size_alloc, size_set]; omega))))⟩
theorem ret_bi {b b' : Bool} {n n' : Int} (h : b = b') (h2 : n = n') : Ending.returned (.tuple #[.bool b, .int .i64 n]) = .returned (.tuple #[.bool b', .int .i64 n']) := by rw [h, h2]
theorem matB_kind {x : Mat} (h : matB x = true) : 0 ≤ x.kind ∧ x.kind ≤ 3 := by
  unfold matB at h
  simp only [Bool.and_eq_true, decide_eq_true_eq] at h
  exact ⟨h.1.1.1.1, h.1.1.1.2⟩
theorem labAll_any (u v : Value) (ms : List Mat) (xs : List Lab) (w : World) (hM : SlAt w u 3 ms.length (matsC ms)) (hS : SlAt w v 2 xs.length (labsC xs)) (hm : MatsOk ms) (hl : LabsOk xs) :
    Calls Try.prog 22 #[u, v] w fun e w' => e = .returned (.tuple #[.bool (decide (allE ms xs = 0) && allB ms xs), .int .i64 (allE ms xs)]) ∧ Below w.heap.size w w' := by
  obtain ⟨a, c, rfl, hnc, hcm⟩ := hS.form
  obtain ⟨a2, c2, rfl, hnc2, hcm2⟩ := hM.form
  have HS := Lib.hid hS
  have HM := Lib.hid hM
  have HR := Lib.hid fun W (h : SlAt W (Value.slice a xs.length c) 2 xs.length (labsC xs)) => labRight_any _ xs W h hl
  have hen1 : Enters Try.prog 60 := enters_of Try.func60 (by kernel_rfl) rfl
  have hen2 : Enters Try.prog 61 := enters_of Try.func61 (by kernel_rfl) rfl
  have H1 := Lib.hid fun W (h : SlAt W (Value.slice a2 ms.length c2) 3 ms.length (matsC ms)) => containsFuncM _ ms 60 #[] (fun m => !matB m) W h (fun x hx W' _ => all1_any x W' (hm x hx).1 (hm x hx).2) hen1
  have H2 := Lib.hid fun (hmb : ∀ x ∈ ms, matB x = true) (g : Nat) W (h : SlAt W (Value.slice a2 ms.length c2) 3 ms.length (matsC ms)) (h3 : SlAt W (Value.slice a xs.length c) 2 xs.length (labsC xs)) (hc : W.cell? ⟨g, 0, none⟩ = some (.slice a xs.length c)) (hg : g < W.heap.size) =>
    containsFuncM (.slice a2 ms.length c2) ms 61 #[.pointer (some ⟨g, 0, none⟩)] (fun m => !matchB m xs) W h (fun x hx W' hW' => all2_any x g _ xs W' (matB_kind (hmb x hx)) ((hW'.cell (p := ⟨g, 0, none⟩) hg).trans hc) (Nat.lt_of_lt_of_le hg hW'.size) (h3.stay hW')) hen2
  unfold allE allB
  obtain ⟨r, hr⟩ : ∃ r, r = labsB xs := ⟨_, rfl⟩
  obtain ⟨q, hq⟩ : ∃ q, q = ms.any (fun m => !matB m) := ⟨_, rfl⟩
  obtain ⟨t, ht⟩ : ∃ t, t = ms.any (fun m => !matchB m xs) := ⟨_, rfl⟩
  have hall : q = false → ∀ x ∈ ms, matB x = true := by
    intro h x hx
    rw [hq, List.any_eq_false] at h
    simpa using h x hx
  rw [← hr] at HR ⊢
  rw [← hq] at H1 ⊢
  rw [← ht] at H2 ⊢
  have HALL := Lib.hid hall
  obtain ⟨E, hE⟩ : ∃ E : Int, E = if r = true ∧ ms.length ≤ 4 ∧ q = false then 0 else 1 := ⟨_, rfl⟩
  obtain ⟨B, hB⟩ : ∃ B : Bool, B = (decide (E = 0) && !t) := ⟨_, rfl⟩
  rw [← hE, ← hB]
  clear hr hq ht hall hS hM hen1 hen2
  cases r
  case false =>
    rw [if_neg (by simp)] at hE
    subst hE
    subst hB
    go_enter Try.func22, Try.ntmps22
    go_wp2_with fail
    refine (HR.out _ (HS.out.stay (by repeat (first | exact Below.refl _ _ | apply bal | apply bext | apply bdr | apply bdrN | (refine bst ?_ _ (by simp only [ext_size, size_alloc, size_set]; omega)))))).mono ?_
    rintro e w' ⟨rfl, hb⟩
    obtain ⟨y1, rfl⟩ := ext_of hb
    clear hb
    go_wp2_with fail
    all_goals
      go_ret2
      exact ⟨rfl, (by repeat (first | exact Below.refl _ _ | apply bal | apply bext | apply bdr | apply bdrN | (refine bst ?_ _ (by simp only [ext_size, size_alloc, size_set]; omega))))⟩
  case true =>
    by_cases c4 : 4 < ms.length
    · rw [if_neg (by omega)] at hE
      subst hE
      subst hB
      go_enter Try.func22, Try.ntmps22
      go_wp2_with fail
      refine (HR.out _ (HS.out.stay (by repeat (first | exact Below.refl _ _ | apply bal | apply bext | apply bdr | apply bdrN | (refine bst ?_ _ (by simp only [ext_size, size_alloc, size_set]; omega)))))).mono ?_
      rintro e w' ⟨rfl, hb⟩
      obtain ⟨y1, rfl⟩ := ext_of hb
      clear hb
      go_wp2_with fail
      go_ret2
      exact ⟨rfl, (by repeat (first | exact Below.refl _ _ | apply bal | apply bext | apply bdr | apply bdrN | (refine bst ?_ _ (by simp only [ext_size, size_alloc, size_set]; omega))))⟩
    · cases q
      case true =>
        rw [if_neg (by simp)] at hE
        subst hE
        subst hB
        go_enter Try.func22, Try.ntmps22
        go_wp2_with fail
        refine (HR.out _ (HS.out.stay (by repeat (first | exact Below.refl _ _ | apply bal | apply bext | apply bdr | apply bdrN | (refine bst ?_ _ (by simp only [ext_size, size_alloc, size_set]; omega)))))).mono ?_
        rintro e w' ⟨rfl, hb⟩
        obtain ⟨y1, rfl⟩ := ext_of hb
        clear hb
        go_wp2_with fail
        refine (H1.out _ (HM.out.stay (by repeat (first | exact Below.refl _ _ | apply bal | apply bext | apply bdr | apply bdrN | (refine bst ?_ _ (by simp only [ext_size, size_alloc, size_set]; omega)))))).mono ?_
        rintro e w' ⟨rfl, hb⟩
        obtain ⟨y2, rfl⟩ := ext_of hb
        clear hb
        go_wp2_with fail
        all_goals
          go_ret2
          exact ⟨rfl, (by repeat (first | exact Below.refl _ _ | apply bal | apply bext | apply bdr | apply bdrN | (refine bst ?_ _ (by simp only [ext_size, size_alloc, size_set]; omega))))⟩
      case false =>
        rw [if_pos ⟨rfl, by omega, rfl⟩] at hE
        subst hE
        have hB' : B = !t := by rw [hB]; rfl
        subst hB'
        have H3 := Lib.hid (H2.out (HALL.out rfl))
        clear hB
        go_enter Try.func22, Try.ntmps22
        go_wp2_with fail
        refine (HR.out _ (HS.out.stay (by repeat (first | exact Below.refl _ _ | apply bal | apply bext | apply bdr | apply bdrN | (refine bst ?_ _ (by simp only [ext_size, size_alloc, size_set]; omega)))))).mono ?_
        rintro e w' ⟨rfl, hb⟩
        obtain ⟨y1, rfl⟩ := ext_of hb
        clear hb
        go_wp2_with fail
        refine (H1.out _ (HM.out.stay (by repeat (first | exact Below.refl _ _ | apply bal | apply bext | apply bdr | apply bdrN | (refine bst ?_ _ (by simp only [ext_size, size_alloc, size_set]; omega)))))).mono ?_
        rintro e w' ⟨rfl, hb⟩
        obtain ⟨y2, rfl⟩ := ext_of hb
        clear hb
        go_wp2_with fail
        refine (H3.out _ _ (HM.out.stay (by repeat (first | exact Below.refl _ _ | apply bal | apply bext | apply bdr | apply bdrN | (refine bst ?_ _ (by simp only [ext_size, size_alloc, size_set]; omega))))) (HS.out.stay (by repeat (first | exact Below.refl _ _ | apply bal | apply bext | apply bdr | apply bdrN | (refine bst ?_ _ (by simp only [ext_size, size_alloc, size_set]; omega))))) ?_ ?_).mono ?_
        · simp only [ext_cell, alloc_cell, ext_size, size_alloc]
          (repeat (first | rw [if_pos (by omega)] | rw [if_neg (by omega)]))
          rfl
        · simp only [ext_size, size_alloc]
          omega
        rintro e w1 ⟨rfl, hb1⟩
        obtain ⟨x1, rfl⟩ := ext_of hb1
        clear hb1
        go_wp2_with fail
        go_ret2
        exact ⟨rfl, (by repeat (first | exact Below.refl _ _ | apply bal | apply bext | apply bdr | apply bdrN | (refine bst ?_ _ (by simp only [ext_size, size_alloc, size_set]; omega))))⟩
end Go.Proofs.Ytkhocnaocndkjaa
