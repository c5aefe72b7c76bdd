/- Contracts of foghornref10: Matcher, Matchers, match, All, Same. -/
import Derived.Test.YtkhocnaocndkjaaC10r
set_option linter.unusedVariables false
set_option linter.unusedSimpArgs false
namespace Go.Proofs.Ytkhocnaocndkjaa
open Go.RowKit
attribute [local go_sem high] ext_size ext_cell ext_frozen alloc_cell alloc_frozen
theorem refMatcher_any (x : Mat) (w : World) (h1 : x.name.size ≤ maxLen) (h2 : x.value.size ≤ maxLen) :
    Calls Try.prog 29 #[matV x] w fun e w' => e = .returned (.bool (matB x)) ∧ Below w.heap.size w w' := by
  obtain ⟨k, n, v⟩ := x
  have HN := Lib.hid fun W => refName_any n W h1
  have HV := Lib.hid fun W => refValue_any v W h2
  unfold matV matB
  simp only at h1 h2 ⊢
  obtain ⟨b1, hb1⟩ : ∃ b, b = nameB n := ⟨_, rfl⟩
  obtain ⟨b2, hb2⟩ : ∃ b, b = valB v := ⟨_, rfl⟩
  rw [← hb1] at HN ⊢
  rw [← hb2] at HV ⊢
  clear hb1 hb2
  have he := empty_dec v
  by_cases c1 : 0 ≤ k ∧ k ≤ 3
  · obtain ⟨c1, c2⟩ := c1
    cases b1
    case false =>
      go_enter Try.func29, Try.ntmps29
      go_wp2_with fail
      refine (HN.out _).mono ?_
      rintro e w' ⟨rfl, hb⟩
      obtain ⟨y1, rfl⟩ := ext_of hb
      clear hb
      go_wp2_with fail
      go_ret
      exact ⟨ret_bool (by simp [c1, c2]), (by repeat (first | exact Below.refl _ _ | apply bal | apply bext | apply bdr | apply bdrN | (refine bst ?_ _ (by simp only [ext_size, size_alloc, size_set]; omega))))⟩
    case true =>
      cases b2
      case false =>
        go_enter Try.func29, Try.ntmps29
        go_wp2_with fail
        refine (HN.out _).mono ?_
        rintro e w' ⟨rfl, hb⟩
        obtain ⟨y1, rfl⟩ := ext_of hb
        clear hb
        go_wp2_with fail
        refine (HV.out _).mono ?_
        rintro e w' ⟨rfl, hb⟩
        obtain ⟨y2, rfl⟩ := ext_of hb
        clear hb
        go_wp2_with fail
        go_ret
        exact ⟨ret_bool (by simp [c1, c2]), (by repeat (first | exact Below.refl _ _ | apply bal | apply bext | apply bdr | apply bdrN | (refine bst ?_ _ (by simp only [ext_size, size_alloc, size_set]; omega))))⟩
      case true =>
        by_cases c3 : k = 3
        · subst c3
          have HE := Lib.hid he
          clear he
          go_enter Try.func29, Try.ntmps29
          go_wp2_with fail
          refine (HN.out _).mono ?_
          rintro e w' ⟨rfl, hb⟩
          obtain ⟨y1, rfl⟩ := ext_of hb
          clear hb
          go_wp2_with fail
          refine (HV.out _).mono ?_
          rintro e w' ⟨rfl, hb⟩
          obtain ⟨y2, rfl⟩ := ext_of hb
          clear hb
          go_wp2_with fail
          all_goals
            go_ret
            refine ⟨ret_bool ?_, (by repeat (first | exact Below.refl _ _ | apply bal | apply bext | apply bdr | apply bdrN | (refine bst ?_ _ (by simp only [ext_size, size_alloc, size_set]; omega))))⟩
            have := HE.out
            simp_all
        · have c4 : (k != 3) = true := by simpa using c3
          clear he
          go_enter Try.func29, Try.ntmps29
          go_wp2_with fail
          refine (HN.out _).mono ?_
          rintro e w' ⟨rfl, hb⟩
          obtain ⟨y1, rfl⟩ := ext_of hb
          clear hb
          go_wp2_with fail
          refine (HV.out _).mono ?_
          rintro e w' ⟨rfl, hb⟩
          obtain ⟨y2, rfl⟩ := ext_of hb
          clear hb
          go_wp2_with fail
          go_ret
          exact ⟨ret_bool (by simp [c1, c2, c3]), (by repeat (first | exact Below.refl _ _ | apply bal | apply bext | apply bdr | apply bdrN | (refine bst ?_ _ (by simp only [ext_size, size_alloc, size_set]; omega))))⟩
  · clear he
    rcases (show k < 0 ∨ 3 < k by omega) with c2 | c2
    all_goals
      go_enter Try.func29, Try.ntmps29
      go_wp2_with fail
      all_goals
        go_ret
        refine ⟨ret_bool ?_, (by repeat (first | exact Below.refl _ _ | apply bal | apply bext | apply bdr | apply bdrN | (refine bst ?_ _ (by simp only [ext_size, size_alloc, size_set]; omega))))⟩
        first
          | (rw [decide_eq_false (p := 0 ≤ k) (by omega)]; rfl)
          | (rw [decide_eq_false (p := k ≤ 3) (by omega)]; simp)
def matsB (ms : List Mat) : Bool := decide (ms.length ≤ 4) && !ms.any (fun m => !matB m)
theorem mats_no {xs : List Mat} {k : Nat} (h : k < xs.length) (hp : matB xs[k] = false) : false = matsB xs := by
  unfold matsB
  have : xs.any (fun x => !matB x) = true := List.any_eq_true.2 ⟨xs[k], List.getElem_mem h, by rw [hp]; rfl⟩
  rw [this]
  simp
theorem mats_all {xs : List Mat} (h : ∀ k (hk : k < xs.length), matB xs[k] = true) : matsB xs = decide (xs.length ≤ 4) := by
  unfold matsB
  have : xs.any (fun x => !matB x) = false := by
    rw [List.any_eq_false]
    intro x hx
    obtain ⟨k, hk, rfl⟩ := List.mem_iff_getElem.1 hx
    simp [h k hk]
  rw [this]
  simp
theorem refMatchers_any (v : Value) (xs : List Mat) (w : World) (hS : SlAt w v 3 xs.length (matsC xs)) (hM : MatsOk xs) :
    Calls Try.prog 30 #[v] w fun e w' => e = .returned (.bool (matsB xs)) ∧ Below w.heap.size w w' := by
  obtain ⟨a, c, rfl, hnc, hcm⟩ := hS.form
  have hm := hS.le
  have HS := Lib.hid hS
  have HM := Lib.hid hM
  unfold maxLen at hm
  clear hS hM
  go_enter Try.func30, Try.ntmps30
  go_wp2
  go_loopw [7] (fun i wr => ∃ k : Nat, k ≤ xs.length ∧ i = .int .i64 k ∧ (∀ j (hj : j < xs.length), j < k → matB xs[j] = true) ∧ Below w.heap.size w wr) (fun i _ => xs.length - (intOf i).toNat)
  case atStart => exact ⟨0, Nat.zero_le _, rfl, fun j _ hj => absurd hj (by omega), Below.refl _ _⟩
  case round =>
    obtain ⟨k, hk, rfl, hall, hbel⟩ := hrel
    have HA := Lib.hid hall
    clear hall
    obtain ⟨xr, rfl⟩ := ext_of hbel
    clear hbel
    by_cases hlt : k < xs.length
    · obtain ⟨b, o, rfl, hbl, hcell⟩ := HS.out.at (by omega)
      have g0 := mats_get xs k hlt
      have k0 : w.cell? ⟨b, o + k * 3, none⟩ = some (.int .i64 xs[k].kind) := hcell _ _ g0.1
      have k1 : w.cell? ⟨b, o + k * 3 + 1, none⟩ = some (.string xs[k].name) := by rw [Nat.add_assoc]; exact hcell _ _ g0.2.1
      have k2 : w.cell? ⟨b, o + k * 3 + 2, none⟩ = some (.string xs[k].value) := by rw [Nat.add_assoc]; exact hcell _ _ g0.2.2
      have hok := HM.out xs[k] (List.getElem_mem hlt)
      have hmm := fun W => refMatcher_any xs[k] W hok.1 hok.2
      unfold matV at hmm
      have HMM := Lib.hid hmm
      clear hmm hcell g0 hok
      cases hb : matB xs[k]
      all_goals
        rw [hb] at HMM
        have HB := Lib.hid hb
        clear hb
        go_wp2_with fail
        refine (HMM.out _).mono ?_
        rintro e w' ⟨rfl, hb⟩
        obtain ⟨y1, rfl⟩ := ext_of hb
        clear hb
        go_wp2_with fail
      · go_ret
        exact ⟨ret_bool (mats_no hlt HB.out), (by repeat (first | exact Below.refl _ _ | apply bal | apply bext | apply bdr | apply bdrN | (refine bst ?_ _ (by simp only [ext_size, size_alloc, size_set]; omega))))⟩
      · refine ⟨⟨k + 1, by omega, by go_num, fun j hj hjk => ?_, (by repeat (first | exact Below.refl _ _ | apply bal | apply bext | apply bdr | apply bdrN | (refine bst ?_ _ (by simp only [ext_size, size_alloc, size_set]; omega))))⟩, by simp [intOf]; omega⟩
        rcases Nat.lt_succ_iff_lt_or_eq.1 hjk with h | rfl
        · exact HA.out j hj h
        · exact HB.out
    · have hr := mats_all (fun j hj => HA.out j hj (by omega))
      have HR := Lib.hid hr
      clear hr
      go_wp2
      all_goals
        go_ret
        refine ⟨ret_bool ?_, (by repeat (first | exact Below.refl _ _ | apply bal | apply bext | apply bdr | apply bdrN | (refine bst ?_ _ (by simp only [ext_size, size_alloc, size_set]; omega))))⟩
        rw [HR.out]
        first | (rw [Bool.eq_iff_iff]; simp; omega) | (simp [*]; done) | (simp; omega)
theorem find_here {α : Type} {p : α → Bool} : ∀ {xs : List α} {k : Nat} (h : k < xs.length), p xs[k] = true → (∀ j (hj : j < xs.length), j < k → p xs[j] = false) → xs.find? p = some xs[k]
  | x :: xs, 0, h, hp, _ => by simp [show p x = true from hp]
  | x :: xs, k + 1, h, hp, hn => by
    have h0 : p x = false := hn 0 (by simp) (by omega)
    rw [List.find?_cons, h0]
    exact find_here (by simpa using h) hp fun j hj hjk => hn (j + 1) (by simpa using hj) (by omega)
theorem find_not {α : Type} {p : α → Bool} {xs : List α} (hn : ∀ j (hj : j < xs.length), p xs[j] = false) : xs.find? p = none := by
  rw [List.find?_eq_none]
  intro x hx
  obtain ⟨j, hj, rfl⟩ := List.mem_iff_getElem.1 hx
  simp [hn j hj]
theorem pre_yes {v a : ByteArray} (h : a.size ≤ v.size) : ((v.extract 0 a.size).toList == a.toList) = Lib.hasPrefix v.data.toList a.data.toList := by
  have e1 : (v.extract 0 a.size).toList = v.data.toList.take a.data.toList.length := by
    rw [ByteArray.toList_eq, ByteArray.data_extract, Array.toList_extract, List.extract_eq_take_drop, len_data]
    simp
  rw [e1, ByteArray.toList_eq]
  unfold Lib.hasPrefix
  rw [Bool.eq_iff_iff, beq_iff_eq, List.isPrefixOf_iff_prefix, List.prefix_iff_eq_take]
  exact ⟨fun h => h.symm, fun h => h.symm⟩
theorem pre_no {v a : ByteArray} (h : v.size < a.size) : Lib.hasPrefix v.data.toList a.data.toList = false := by
  unfold Lib.hasPrefix
  cases e : a.data.toList.isPrefixOf v.data.toList
  · rfl
  · have := (List.isPrefixOf_iff_prefix.1 e).length_le
    rw [len_data, len_data] at this
    omega
set_option maxHeartbeats 2000000 in
theorem refMatch_any (m : Mat) (v : Value) (xs : List Lab) (w : World) (hk : 0 ≤ m.kind ∧ m.kind ≤ 3) (hS : SlAt w v 2 xs.length (labsC xs)) (hL : LabsOk xs) (hmv : m.value.size ≤ maxLen) :
    Calls Try.prog 68 #[matV m, v] w fun e w' => e = .returned (.bool (matchB m xs)) ∧ Below w.heap.size w w' := by
  obtain ⟨a, c, rfl, hnc, hcm⟩ := hS.form
  have hm := hS.le
  have HS := Lib.hid hS
  have HL := Lib.hid hL
  obtain ⟨p, hp⟩ : ∃ p, p = isOf m := ⟨_, rfl⟩
  have hpe : ∀ x, p x = (x.name.toList == m.name.toList) := fun x => by rw [hp]; rfl
  have hyes : ∀ k (h : k < xs.length), p xs[k] = true → (∀ j (hj : j < xs.length), j < k → p xs[j] = false) → matchB m xs = ofB m.kind xs[k].value m.value := fun k h h1 h2 => by
    unfold matchB
    rw [← hp, find_here h h1 h2]
  have hno : (∀ j (hj : j < xs.length), p xs[j] = false) → matchB m xs = decide (m.kind = 1) := fun h2 => by
    unfold matchB
    rw [← hp, find_not h2]
  obtain ⟨r, hr⟩ : ∃ r, r = matchB m xs := ⟨_, rfl⟩
  rw [← hr] at hyes hno ⊢
  obtain ⟨kd, n, u⟩ := m
  simp only at hk hpe hyes hno hmv
  unfold maxLen at hm hmv
  unfold matV
  have HY := Lib.hid hyes
  have HNO := Lib.hid hno
  have HPE := Lib.hid hpe
  clear hS hL hyes hno hpe hp hr
  go_enter Try.func68, Try.ntmps68
  go_wp2
  go_loopw [10] (fun i wr => ∃ k : Nat, k ≤ xs.length ∧ i = .int .i64 k ∧ (∀ j (hj : j < xs.length), j < k → p xs[j] = false) ∧ Below (w.alloc (.cells #[.int .i64 kd, .string n, .string u] 53)).heap.size (w.alloc (.cells #[.int .i64 kd, .string n, .string u] 53)) wr) (fun i _ => xs.length - (intOf i).toNat)
  case atStart => exact ⟨0, Nat.zero_le _, rfl, fun j _ hj => absurd hj (by omega), Below.refl _ _⟩
  case round =>
    obtain ⟨k, hk', rfl, hall, hbel⟩ := hrel
    have HA := Lib.hid hall
    clear hall
    obtain ⟨xr, rfl⟩ := ext_of hbel
    clear hbel
    by_cases hlt : k < xs.length
    · obtain ⟨b, o, rfl, hbl, hcell⟩ := HS.out.at (by omega)
      have g0 := labs_get xs k hlt
      have k0 : w.cell? ⟨b, o + k * 2, none⟩ = some (.string xs[k].name) := hcell _ _ g0.1
      have k1 : w.cell? ⟨b, o + k * 2 + 1, none⟩ = some (.string xs[k].value) := by rw [Nat.add_assoc]; exact hcell _ _ g0.2
      have hok := HL.out xs[k] (List.getElem_mem hlt)
      have hy := HY.out k hlt
      have hpk := HPE.out xs[k]
      obtain ⟨x, hx⟩ : ∃ x, x = xs[k] := ⟨_, rfl⟩
      have HX := Lib.hid hx
      rw [← hx] at k0 k1 hok hy hpk
      clear hcell g0 hx
      cases hq : (x.name.toList == n.toList)
      · rw [hq] at hpk
        have HP := Lib.hid hpk
        clear hpk hy hok
        go_wp2
        refine ⟨⟨k + 1, by omega, by go_num, fun j hj hjk => ?_, (by repeat (first | exact Below.refl _ _ | apply bal | apply bext | apply bdr | apply bdrN | (refine bst ?_ _ (by simp only [ext_size, size_alloc, size_set]; omega))))⟩, by simp [intOf]; omega⟩
        rcases Nat.lt_succ_iff_lt_or_eq.1 hjk with h | rfl
        · exact HA.out j hj h
        · rw [← HX.out]; exact HP.out
      · rw [hq] at hpk
        have hres := hy hpk HA.out
        have HRES := Lib.hid hres
        obtain ⟨_, hv⟩ := hok
        unfold maxLen at hv
        clear hpk hy hres
        rcases (show kd = 0 ∨ kd = 1 ∨ kd = 2 ∨ kd = 3 by omega) with rfl | rfl | rfl | rfl
        · clear hk
          go_wp2
          all_goals
            go_ret
            refine ⟨ret_bool ?_, (by repeat (first | exact Below.refl _ _ | apply bal | apply bext))⟩
            rw [HRES.out]
            simp [ofB]
        · clear hk
          go_wp2
          all_goals
            go_ret
            refine ⟨ret_bool ?_, (by repeat (first | exact Below.refl _ _ | apply bal | apply bext))⟩
            rw [HRES.out]
            simp [ofB]
        · clear hk
          rcases Nat.lt_or_ge x.value.size u.size with c1 | c1
          · have q1 : decide ((u.size : Int) ≤ x.value.size) = false := by simp; omega
            have q3 : decide (u.size ≤ x.value.size) = false := by simp; omega
            go_wp2
            refine wp_region_ext (by kernel_rfl) (by kernel_rfl) ?_
            repeat (go_big_quiet_step ((fail)))
            refine wpQuiet_nil ?_
            intro _ hw'
            obtain ⟨y1, rfl⟩ := hw'
            go_wp2
            go_ret
            refine ⟨ret_bool ?_, (by repeat (first | exact Below.refl _ _ | apply bal | apply bext))⟩
            rw [HRES.out]
            simp [ofB, pre_no c1]
          · have q1 : decide ((u.size : Int) ≤ x.value.size) = true := by simp; omega
            have q3 : decide (u.size ≤ x.value.size) = true := by simp; omega
            have q2 : (u.size : Int) ≤ x.value.size := by omega
            go_wp2
            refine wp_region_ext (by kernel_rfl) (by kernel_rfl) ?_
            repeat (go_big_quiet_step ((fail)))
            refine wpQuiet_nil ?_
            intro _ hw'
            obtain ⟨y1, rfl⟩ := hw'
            go_wp2
            go_ret
            refine ⟨ret_bool ?_, (by repeat (first | exact Below.refl _ _ | apply bal | apply bext))⟩
            rw [HRES.out]
            simp [ofB, ← pre_yes c1]
        · clear hk
          go_wp2
          refine wp_region_ext (by kernel_rfl) (by kernel_rfl) ?_
          repeat (go_big_quiet_step ((fail)))
          refine wpQuiet_nil ?_
          intro _ hw'
          obtain ⟨y1, rfl⟩ := hw'
          go_wp2
          go_ret
          refine ⟨ret_bool ?_, (by repeat (first | exact Below.refl _ _ | apply bal | apply bext))⟩
          rw [HRES.out]
          simp [ofB]
    · have hres := HNO.out (fun j hj => HA.out j hj (by omega))
      have HRES := Lib.hid hres
      clear hres
      go_wp2
      all_goals
        go_ret
        refine ⟨ret_bool ?_, (by repeat (first | exact Below.refl _ _ | apply bal | apply bext))⟩
        rw [HRES.out]
        rw [Bool.eq_iff_iff]; simp
end Go.Proofs.Ytkhocnaocndkjaa
