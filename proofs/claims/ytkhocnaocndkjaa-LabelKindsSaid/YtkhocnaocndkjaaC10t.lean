/- Contracts of foghornref10: All, Same. -/
import Derived.Test.YtkhocnaocndkjaaC10s
set_option linter.unusedVariables false
set_option linter.unusedSimpArgs false
namespace Go.Proofs.Ytkhocnaocndkjaa
open Go.RowKit
attribute [local go_sem high] ext_size ext_cell ext_frozen alloc_cell alloc_frozen
theorem allB_no {ms : List Mat} {xs : List Lab} {k : Nat} (h : k < ms.length) (hp : matchB ms[k] xs = false) : false = allB ms xs := by
  unfold allB
  have : ms.any (fun x => !matchB x xs) = true := List.any_eq_true.2 ⟨ms[k], List.getElem_mem h, by rw [hp]; rfl⟩
  rw [this]
  rfl
theorem allB_all {ms : List Mat} {xs : List Lab} (h : ∀ k (hk : k < ms.length), matchB ms[k] xs = true) : true = allB ms xs := by
  unfold allB
  have : ms.any (fun x => !matchB x xs) = false := by
    rw [List.any_eq_false]
    intro x hx
    obtain ⟨k, hk, rfl⟩ := List.mem_iff_getElem.1 hx
    simp [h k hk]
  rw [this]
  rfl
theorem refAll_any (u v : Value) (ms : List Mat) (xs : List Lab) (w : World) (hM : SlAt w u 3 ms.length (matsC ms)) (hS : SlAt w v 2 xs.length (labsC xs)) (hm : MatsOk ms) (hl : LabsOk xs) (hkd : ∀ m ∈ ms, matB m = true) :
    Calls Try.prog 31 #[u, v] w fun e w' => e = .returned (.bool (allB ms xs)) ∧ Below w.heap.size w w' := by
  obtain ⟨a, c, rfl, hnc, hcm⟩ := hS.form
  obtain ⟨a2, c2, rfl, hnc2, hcm2⟩ := hM.form
  have hml := hM.le
  have HS := Lib.hid hS
  have HM := Lib.hid hM
  have HMA := Lib.hid fun (k : Nat) (hk : k < ms.length) W (h : SlAt W (Value.slice a xs.length c) 2 xs.length (labsC xs)) => refMatch_any ms[k] _ xs W (matB_kind (hkd _ (List.getElem_mem hk))) h hl (hm _ (List.getElem_mem hk)).2
  unfold maxLen at hml
  clear hS hM hm hl hkd
  go_enter Try.func31, Try.ntmps31
  go_wp2
  go_loopw [9] (fun i wr => ∃ k : Nat, k ≤ ms.length ∧ i = .int .i64 k ∧ (∀ j (hj : j < ms.length), j < k → matchB ms[j] xs = true) ∧ Below w.heap.size w wr) (fun i _ => ms.length - (intOf i).toNat)
  case atStart => exact ⟨0, Nat.zero_le _, rfl, fun j _ hj => absurd hj (by omega), Below.refl _ _⟩
  case round =>
    obtain ⟨k, hk, rfl, hall, hbel⟩ := hrel
    have HA := Lib.hid hall
    clear hall
    obtain ⟨xr, rfl⟩ := ext_of hbel
    clear hbel
    by_cases hlt : k < ms.length
    · obtain ⟨b, o, rfl, hbl, hcell⟩ := HM.out.at (by omega)
      have g0 := mats_get ms k hlt
      have k0 : w.cell? ⟨b, o + k * 3, none⟩ = some (.int .i64 ms[k].kind) := hcell _ _ g0.1
      have k1 : w.cell? ⟨b, o + k * 3 + 1, none⟩ = some (.string ms[k].name) := by rw [Nat.add_assoc]; exact hcell _ _ g0.2.1
      have k2 : w.cell? ⟨b, o + k * 3 + 2, none⟩ = some (.string ms[k].value) := by rw [Nat.add_assoc]; exact hcell _ _ g0.2.2
      have hmm := HMA.out k hlt
      unfold matV at hmm
      have HMM := Lib.hid hmm
      clear hmm hcell g0
      cases hb : matchB ms[k] xs
      all_goals
        rw [hb] at HMM
        have HB := Lib.hid hb
        clear hb
        go_wp2_with fail
        refine (HMM.out _ (HS.out.stay (by repeat (first | exact Below.refl _ _ | apply bal | apply bext | apply bdr | apply bdrN | (refine bst ?_ _ (by simp only [ext_size, size_alloc, size_set]; omega)))))).mono ?_
        rintro e w' ⟨rfl, hb⟩
        obtain ⟨y1, rfl⟩ := ext_of hb
        clear hb
        go_wp2_with fail
      · go_ret
        exact ⟨ret_bool (allB_no hlt HB.out), (by repeat (first | exact Below.refl _ _ | apply bal | apply bext | apply bdr | apply bdrN | (refine bst ?_ _ (by simp only [ext_size, size_alloc, size_set]; omega))))⟩
      · refine ⟨⟨k + 1, by omega, by go_num, fun j hj hjk => ?_, (by repeat (first | exact Below.refl _ _ | apply bal | apply bext | apply bdr | apply bdrN | (refine bst ?_ _ (by simp only [ext_size, size_alloc, size_set]; omega))))⟩, by simp [intOf]; omega⟩
        rcases Nat.lt_succ_iff_lt_or_eq.1 hjk with h | rfl
        · exact HA.out j hj h
        · exact HB.out
    · go_wp2
      go_ret
      exact ⟨ret_bool (allB_all fun j hj => HA.out j hj (by omega)), (by repeat (first | exact Below.refl _ _ | apply bal | apply bext | apply bdr | apply bdrN | (refine bst ?_ _ (by simp only [ext_size, size_alloc, size_set]; omega))))⟩
theorem lab_ext {x y : Lab} (h : (x.name.toList == y.name.toList) = true) (h2 : (x.value.toList == y.value.toList) = true) : x = y := by
  obtain ⟨n, v⟩ := x
  obtain ⟨n2, v2⟩ := y
  have e1 : n = n2 := bytes_of_eq h
  have e2 : v = v2 := bytes_of_eq h2
  rw [e1, e2]
theorem refSameL_any (u v : Value) (xs ys : List Lab) (w : World) (hS : SlAt w u 2 xs.length (labsC xs)) (hT : SlAt w v 2 ys.length (labsC ys)) :
    Calls Try.prog 26 #[u, v] w fun e w' => e = .returned (.bool (decide (xs = ys))) ∧ Below w.heap.size w w' := by
  obtain ⟨a, c, rfl, hnc, hcm⟩ := hS.form
  obtain ⟨a2, c2, rfl, hnc2, hcm2⟩ := hT.form
  have hm := hS.le
  unfold maxLen at hm
  have HS := Lib.hid hS
  have HT := Lib.hid hT
  clear hS hT
  obtain ⟨n, hxn⟩ : ∃ n, xs.length = n := ⟨_, rfl⟩
  obtain ⟨n2, hyn⟩ : ∃ n, ys.length = n := ⟨_, rfl⟩
  rw [hxn] at HS hm hnc ⊢
  rw [hyn] at HT hnc2 ⊢
  have HXN := Lib.hid hxn
  have HYN := Lib.hid hyn
  obtain ⟨r, hr⟩ : ∃ r, r = decide (xs = ys) := ⟨_, rfl⟩
  rw [← hr]
  have HR := Lib.hid hr
  clear hxn hyn hr
  by_cases hl : n = n2
  · subst hl
    go_enter Try.func26, Try.ntmps26
    go_wp2
    go_loopw [5, 13] (fun _ i wr => ∃ k : Nat, k ≤ n ∧ i = .int .i64 k ∧ (∀ j (h1 : j < xs.length) (h2 : j < ys.length), j < k → xs[j] = ys[j]) ∧ Below w.heap.size w wr) (fun _ i _ => n - (intOf i).toNat)
    case atStart => exact ⟨0, Nat.zero_le _, rfl, fun j _ _ hj => absurd hj (by omega), Below.refl _ _⟩
    case round =>
      obtain ⟨k, hk, rfl, hno, hbel⟩ := hrel
      have HN := Lib.hid hno
      clear hno
      obtain ⟨xr, rfl⟩ := ext_of hbel
      clear hbel
      by_cases hlt : k < n
      · have hl1 : k < xs.length := by rw [HXN.out]; exact hlt
        have hl2 : k < ys.length := by rw [HYN.out]; exact hlt
        obtain ⟨b, o, rfl, hbl, hcell⟩ := HS.out.at (by omega)
        have g0 := labs_get xs k hl1
        have k0 : w.cell? ⟨b, o + k * 2, none⟩ = some (.string xs[k].name) := hcell _ _ g0.1
        have k1 : w.cell? ⟨b, o + k * 2 + 1, none⟩ = some (.string xs[k].value) := by rw [Nat.add_assoc]; exact hcell _ _ g0.2
        clear hcell g0
        obtain ⟨b2, o2, rfl, hbl2, hcell⟩ := HT.out.at (by omega)
        have g0 := labs_get ys k hl2
        have k2 : w.cell? ⟨b2, o2 + k * 2, none⟩ = some (.string ys[k].name) := hcell _ _ g0.1
        have k3 : w.cell? ⟨b2, o2 + k * 2 + 1, none⟩ = some (.string ys[k].value) := by rw [Nat.add_assoc]; exact hcell _ _ g0.2
        clear hcell g0
        obtain ⟨x, hx⟩ : ∃ x, x = xs[k] := ⟨_, rfl⟩
        obtain ⟨y, hy⟩ : ∃ y, y = ys[k] := ⟨_, rfl⟩
        rw [← hx] at k0 k1
        rw [← hy] at k2 k3
        have HX := Lib.hid hx
        have HY := Lib.hid hy
        clear hx hy
        cases q1 : (x.name.toList == y.name.toList)
        · have HQ := Lib.hid (show ¬ x = y by rintro rfl; simp at q1)
          have i1 : (k : Int) < (n : Int) := by omega
          go_wp2
          refine wp_region_ext (by kernel_rfl) (by kernel_rfl) ?_
          repeat (go_big_quiet_step ((fail)))
          refine wpQuiet_nil ?_
          intro _ hw'
          obtain ⟨y1, rfl⟩ := hw'
          go_wp2
          go_ret
          refine ⟨ret_bool ?_, (by repeat (first | exact Below.refl _ _ | apply bal | apply bext | apply bdr | apply bdrN | (refine bst ?_ _ (by simp only [ext_size, size_alloc, size_set]; omega))))⟩
          rw [HR.out]
          symm
          apply decide_eq_false
          rintro rfl
          exact HQ.out (HX.out.trans HY.out.symm)
        · cases q2 : (x.value.toList == y.value.toList)
          · have HQ := Lib.hid (show ¬ x = y by rintro rfl; simp at q2)
            have i1 : (k : Int) < (n : Int) := by omega
            go_wp2
            refine wp_region_ext (by kernel_rfl) (by kernel_rfl) ?_
            repeat (go_big_quiet_step ((fail)))
            refine wpQuiet_nil ?_
            intro _ hw'
            obtain ⟨y1, rfl⟩ := hw'
            go_wp2
            go_ret
            refine ⟨ret_bool ?_, (by repeat (first | exact Below.refl _ _ | apply bal | apply bext | apply bdr | apply bdrN | (refine bst ?_ _ (by simp only [ext_size, size_alloc, size_set]; omega))))⟩
            rw [HR.out]
            symm
            apply decide_eq_false
            rintro rfl
            exact HQ.out (HX.out.trans HY.out.symm)
          · have HQ := Lib.hid (lab_ext q1 q2)
            have i1 : (k : Int) < (n : Int) := by omega
            go_wp2
            refine wp_region_ext (by kernel_rfl) (by kernel_rfl) ?_
            repeat (go_big_quiet_step ((fail)))
            refine wpQuiet_nil ?_
            intro _ hw'
            obtain ⟨y1, rfl⟩ := hw'
            go_wp2
            refine ⟨⟨k + 1, by omega, by go_num, fun j h1 h2 hjk => ?_, (by repeat (first | exact Below.refl _ _ | apply bal | apply bext | apply bdr | apply bdrN | (refine bst ?_ _ (by simp only [ext_size, size_alloc, size_set]; omega))))⟩, by simp [intOf]; omega⟩
            rcases Nat.lt_succ_iff_lt_or_eq.1 hjk with h | rfl
            · exact HN.out j h1 h2 h
            · exact HX.out.symm.trans (HQ.out.trans HY.out)
      · go_wp2
        go_ret
        refine ⟨ret_bool ?_, (by repeat (first | exact Below.refl _ _ | apply bal | apply bext | apply bdr | apply bdrN | (refine bst ?_ _ (by simp only [ext_size, size_alloc, size_set]; omega))))⟩
        rw [HR.out]
        symm
        apply decide_eq_true
        exact List.ext_getElem (HXN.out.trans HYN.out.symm) fun j h1 h2 => HN.out j h1 h2 (by have := HXN.out; omega)
  · have hn : ((n : Int) != n2) = true := by simp; omega
    go_enter Try.func26, Try.ntmps26
    go_wp2
    go_ret
    refine ⟨ret_bool ?_, (by repeat (first | exact Below.refl _ _ | apply bal | apply bext | apply bdr | apply bdrN | (refine bst ?_ _ (by simp only [ext_size, size_alloc, size_set]; omega))))⟩
    rw [HR.out]
    symm
    apply decide_eq_false
    intro h
    exact hl (HXN.out.symm.trans ((congrArg _ h).trans HYN.out))
end Go.Proofs.Ytkhocnaocndkjaa
