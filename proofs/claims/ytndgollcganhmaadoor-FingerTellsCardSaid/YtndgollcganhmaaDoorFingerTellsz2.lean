/- The statement 'FingerTells': for every input the law returns true, and each argument reads behind the call as it read before; the library's tables are tied to the program's text. No condition. -/
import Derived.Test.YtndgollcganhmaaDoorWWords
import Derived.WideShapes
import Derived.Test.YtndgollcganhmaaDoorRows
import Derived.Test.YtndgollcganhmaaDoorCards
import Derived.Test.YtndgollcganhmaaDoorTie
import Derived.WalkKit
import Derived.ProofKit
import Derived.OpenShut
import Derived.ShutString
import Derived.Below
import Derived.Carry
import Derived.LaidMore
import Derived.Stop.Joined
import Derived.SevenTiedAt
import Derived.Lib.LaidTab
import Derived.Test.YtndgollcganhmaaDoorFingerTellsz1
set_option linter.unusedVariables false
set_option linter.unusedSimpArgs false
/- Contracts of foghornref10: Name, Value, each, Right, Matcher, Matchers. -/
namespace Go.Proofs.YtndgollcganhmaaDoor
open Go.RowKit
attribute [local go_sem high] ext_size ext_cell ext_frozen alloc_cell alloc_frozen
theorem name_len {s : ByteArray} (h : ∀ k (hk : k < s.size), azB (s[k]'hk) = true) : nameB s = (decide (1 ≤ s.size) && decide (s.size ≤ 8)) := by
  unfold nameB
  rw [all_good h, Bool.true_and]
theorem refName_any (s : ByteArray) (w : World) (hs : s.size ≤ maxLen) :
    Calls Tryd.prog 28 #[.string s] w fun e w' => e = .returned (.bool (nameB s)) ∧ Below w.heap.size w w' := by
  unfold maxLen at hs
  go_enter Tryd.func28, Tryd.ntmps28
  go_wp2
  go_loopw [3] (fun i wr => ∃ k : Nat, k ≤ s.size ∧ i = .int .i64 k ∧ (∀ j (hj : j < s.size), j < k → azB (s[j]'hj) = true) ∧ Below w.heap.size w wr) (fun i _ => s.size - (intOf i).toNat)
  case atStart => exact ⟨0, Nat.zero_le _, rfl, fun j _ hj => absurd hj (by omega), Below.refl _ _⟩
  case round =>
    obtain ⟨k, hk, rfl, hall, hbel⟩ := hrel
    have HA := Lib.hid hall
    clear hall
    obtain ⟨xr, rfl⟩ := ext_of hbel
    clear hbel
    by_cases hlt : k < s.size
    · go_wp2
      all_goals (try go_quiet (fail)); (try go_wp2)
      all_goals first
        | (go_ret; exact ⟨ret_bool (name_no hlt (az_no (by omega))), (by repeat (first | exact Below.refl _ _ | apply bal | apply bext | apply bdr | apply bdrN | (refine bst ?_ _ (by simp only [ext_size, size_alloc, size_set]; omega))))⟩)
        | (refine ⟨⟨k + 1, by omega, by go_num, fun j hj hjk => ?_, (by repeat (first | exact Below.refl _ _ | apply bal | apply bext | apply bdr | apply bdrN | (refine bst ?_ _ (by simp only [ext_size, size_alloc, size_set]; omega))))⟩, by simp [intOf]; omega⟩
           rcases Nat.lt_succ_iff_lt_or_eq.1 hjk with h | rfl
           · exact HA.out j hj h
           · exact az_yes (by omega))
    · have hr := name_len (fun j hj => HA.out j hj (by omega))
      have HR := Lib.hid hr
      clear hr
      go_wp2
      all_goals
        go_ret
        refine ⟨ret_bool ?_, (by repeat (first | exact Below.refl _ _ | apply bal | apply bext | apply bdr | apply bdrN | (refine bst ?_ _ (by simp only [ext_size, size_alloc, size_set]; omega))))⟩
        rw [HR.out]
        first | (rw [Bool.eq_iff_iff]; simp; omega) | (simp [*]; done) | (simp; omega)
theorem val_len {s : ByteArray} (h : ∀ k (hk : k < s.size), avB (s[k]'hk) = true) : valB s = decide (s.size ≤ 8) := by
  unfold valB
  rw [all_good h, Bool.true_and]
set_option maxHeartbeats 1000000 in
theorem refValue_any (s : ByteArray) (w : World) (hs : s.size ≤ maxLen) :
    Calls Tryd.prog 29 #[.string s] w fun e w' => e = .returned (.bool (valB s)) ∧ Below w.heap.size w w' := by
  unfold maxLen at hs
  go_enter Tryd.func29, Tryd.ntmps29
  go_wp2
  go_loopw [3] (fun i wr => ∃ k : Nat, k ≤ s.size ∧ i = .int .i64 k ∧ (∀ j (hj : j < s.size), j < k → avB (s[j]'hj) = true) ∧ Below w.heap.size w wr) (fun i _ => s.size - (intOf i).toNat)
  case atStart => exact ⟨0, Nat.zero_le _, rfl, fun j _ hj => absurd hj (by omega), Below.refl _ _⟩
  case round =>
    obtain ⟨k, hk, rfl, hall, hbel⟩ := hrel
    have HA := Lib.hid hall
    clear hall
    obtain ⟨xr, rfl⟩ := ext_of hbel
    clear hbel
    by_cases hlt : k < s.size
    · go_wp2
      all_goals first
        | (go_ret; exact ⟨ret_bool (val_no hlt (av_no (by first | omega | (rename_i h; simp at h; omega) | (simp_all; omega)))), (by repeat (first | exact Below.refl _ _ | apply bal | apply bext | apply bdr | apply bdrN | (refine bst ?_ _ (by simp only [ext_size, size_alloc, size_set]; omega))))⟩)
        | (refine ⟨⟨k + 1, by omega, by go_num, fun j hj hjk => ?_, (by repeat (first | exact Below.refl _ _ | apply bal | apply bext | apply bdr | apply bdrN | (refine bst ?_ _ (by simp only [ext_size, size_alloc, size_set]; omega))))⟩, by simp [intOf]; omega⟩
           rcases Nat.lt_succ_iff_lt_or_eq.1 hjk with h | rfl
           · exact HA.out j hj h
           · exact av_yes (by first | omega | (rename_i h _; simp at h; omega) | (rename_i h; simp at h; omega)))
    · have hr := val_len (fun j hj => HA.out j hj (by omega))
      have HR := Lib.hid hr
      clear hr
      go_wp2
      all_goals
        go_ret
        refine ⟨ret_bool ?_, (by repeat (first | exact Below.refl _ _ | apply bal | apply bext | apply bdr | apply bdrN | (refine bst ?_ _ (by simp only [ext_size, size_alloc, size_set]; omega))))⟩
        rw [HR.out]
        first | (rw [Bool.eq_iff_iff]; simp; omega) | (simp [*]; done) | (simp; omega)
theorem each_no {xs : List Lab} {k : Nat} (h : k < xs.length) (hp : labB xs[k] = false) : false = eachB xs := by
  unfold eachB
  have : xs.any (fun x => !labB x) = true := List.any_eq_true.2 ⟨xs[k], List.getElem_mem h, by rw [hp]; rfl⟩
  rw [this]
  simp
theorem each_all {xs : List Lab} (h : ∀ k (hk : k < xs.length), labB xs[k] = true) : eachB xs = (decide (1 ≤ xs.length) && decide (xs.length ≤ 3)) := by
  unfold eachB
  have : xs.any (fun x => !labB x) = false := by
    rw [List.any_eq_false]
    intro x hx
    obtain ⟨k, hk, rfl⟩ := List.mem_iff_getElem.1 hx
    simp [h k hk]
  rw [this]
  simp
theorem refEach_any (v : Value) (xs : List Lab) (w : World) (hS : SlAt w v 2 xs.length (labsC xs)) (hL : LabsOk xs) :
    Calls Tryd.prog 18 #[v] w fun e w' => e = .returned (.bool (eachB xs)) ∧ Below w.heap.size w w' := by
  obtain ⟨a, c, rfl, hnc, hcm⟩ := hS.form
  have hm := hS.le
  have HS := Lib.hid hS
  have HL := Lib.hid hL
  unfold maxLen at hm
  clear hS hL
  go_enter Tryd.func18, Tryd.ntmps18
  go_wp2
  go_loopw [7] (fun i wr => ∃ k : Nat, k ≤ xs.length ∧ i = .int .i64 k ∧ (∀ j (hj : j < xs.length), j < k → labB xs[j] = true) ∧ Below w.heap.size w wr) (fun i _ => xs.length - (intOf i).toNat)
  case atStart => exact ⟨0, Nat.zero_le _, rfl, fun j _ hj => absurd hj (by omega), Below.refl _ _⟩
  case round =>
    obtain ⟨k, hk, rfl, hall, hbel⟩ := hrel
    have HA := Lib.hid hall
    clear hall
    obtain ⟨xr, rfl⟩ := ext_of hbel
    clear hbel
    by_cases hlt : k < xs.length
    · obtain ⟨b, o, rfl, hbl, hcell⟩ := HS.out.at (by omega)
      have g0 := labs_get xs k hlt
      have k0 : w.cell? ⟨b, o + k * 2, none⟩ = some (.string xs[k].name) := hcell _ _ g0.1
      have k1 : w.cell? ⟨b, o + k * 2 + 1, none⟩ = some (.string xs[k].value) := by rw [Nat.add_assoc]; exact hcell _ _ g0.2
      have hok := HL.out xs[k] (List.getElem_mem hlt)
      obtain ⟨x, hx⟩ : ∃ x, x = xs[k] := ⟨_, rfl⟩
      rw [← hx] at k0 k1 hok
      have HX := Lib.hid hx
      have HN := Lib.hid fun W => refName_any x.name W hok.1
      have HV := Lib.hid fun W => refValue_any x.value W hok.2
      clear hcell g0 hx hok
      cases hn : nameB x.name
      · rw [hn] at HN
        have HB := Lib.hid (show labB x = false by unfold labB; rw [hn]; rfl)
        clear hn
        go_wp2_with fail
        refine (HN.out _).mono ?_
        rintro e w' ⟨rfl, hb⟩
        obtain ⟨y1, rfl⟩ := ext_of hb
        clear hb
        go_wp2_with fail
        go_ret
        exact ⟨ret_bool (each_no hlt (by rw [← HX.out]; exact HB.out)), (by repeat (first | exact Below.refl _ _ | apply bal | apply bext | apply bdr | apply bdrN | (refine bst ?_ _ (by simp only [ext_size, size_alloc, size_set]; omega))))⟩
      · rw [hn] at HN
        cases hv : valB x.value
        · rw [hv] at HV
          have HB := Lib.hid (show labB x = false by unfold labB; rw [hn, hv]; rfl)
          clear hn hv
          go_wp2_with fail
          refine (HN.out _).mono ?_
          rintro e w' ⟨rfl, hb⟩
          obtain ⟨y1, rfl⟩ := ext_of hb
          clear hb
          go_wp2_with fail
          refine (HV.out _).mono ?_
          rintro e w' ⟨rfl, hb⟩
          obtain ⟨y2, rfl⟩ := ext_of hb
          clear hb
          go_wp2_with fail
          go_ret
          exact ⟨ret_bool (each_no hlt (by rw [← HX.out]; exact HB.out)), (by repeat (first | exact Below.refl _ _ | apply bal | apply bext | apply bdr | apply bdrN | (refine bst ?_ _ (by simp only [ext_size, size_alloc, size_set]; omega))))⟩
        · rw [hv] at HV
          have HB := Lib.hid (show labB x = true by unfold labB; rw [hn, hv]; rfl)
          clear hn hv
          go_wp2_with fail
          refine (HN.out _).mono ?_
          rintro e w' ⟨rfl, hb⟩
          obtain ⟨y1, rfl⟩ := ext_of hb
          clear hb
          go_wp2_with fail
          refine (HV.out _).mono ?_
          rintro e w' ⟨rfl, hb⟩
          obtain ⟨y2, rfl⟩ := ext_of hb
          clear hb
          go_wp2_with fail
          refine ⟨⟨k + 1, by omega, by go_num, fun j hj hjk => ?_, (by repeat (first | exact Below.refl _ _ | apply bal | apply bext | apply bdr | apply bdrN | (refine bst ?_ _ (by simp only [ext_size, size_alloc, size_set]; omega))))⟩, by simp [intOf]; omega⟩
          rcases Nat.lt_succ_iff_lt_or_eq.1 hjk with h | rfl
          · exact HA.out j hj h
          · rw [← HX.out]; exact HB.out
    · have hr := each_all (fun j hj => HA.out j hj (by omega))
      have HR := Lib.hid hr
      clear hr
      go_wp2
      all_goals
        go_ret
        refine ⟨ret_bool ?_, (by repeat (first | exact Below.refl _ _ | apply bal | apply bext | apply bdr | apply bdrN | (refine bst ?_ _ (by simp only [ext_size, size_alloc, size_set]; omega))))⟩
        rw [HR.out]
        first | (rw [Bool.eq_iff_iff]; simp; omega) | (simp [*]; done) | (simp; omega)
theorem refRight10_any (v : Value) (xs : List Lab) (w : World) (hS : SlAt w v 2 xs.length (labsC xs)) (hL : LabsOk xs) :
    Calls Tryd.prog 12 #[v] w fun e w' => e = .returned (.bool (labsB xs)) ∧ Below w.heap.size w w' := by
  obtain ⟨a, c, rfl, hnc, hcm⟩ := hS.form
  have hm := hS.le
  have HS := Lib.hid hS
  have HE := Lib.hid fun W (h : SlAt W (Value.slice a xs.length c) 2 xs.length (labsC xs)) => refEach_any _ xs W h hL
  unfold maxLen at hm
  clear hS hL
  go_enter Tryd.func12, Tryd.ntmps12
  go_wp2
  go_loopw [7] (fun i wr => ∃ k : Nat, k ≤ xs.length ∧ i = .int .i64 k ∧ (∀ q (h : q + 1 < xs.length), q + 1 < k → ltS xs[q].name xs[q + 1].name = true) ∧ Below w.heap.size w wr) (fun i _ => xs.length - (intOf i).toNat)
  case atStart => exact ⟨0, Nat.zero_le _, rfl, fun j _ hj => absurd hj (by omega), Below.refl _ _⟩
  case round =>
    obtain ⟨k, hk, rfl, hall, hbel⟩ := hrel
    have HA := Lib.hid hall
    clear hall
    obtain ⟨xr, rfl⟩ := ext_of hbel
    clear hbel
    by_cases hlt : k < xs.length
    · obtain ⟨b, o, rfl, hbl, hcell⟩ := HS.out.at (by omega)
      have g0 := labs_get xs k hlt
      have k0 : w.cell? ⟨b, o + k * 2, none⟩ = some (.string xs[k].name) := hcell _ _ g0.1
      have k1 : w.cell? ⟨b, o + k * 2 + 1, none⟩ = some (.string xs[k].value) := by rw [Nat.add_assoc]; exact hcell _ _ g0.2
      obtain ⟨x, hx⟩ : ∃ x, x = xs[k] := ⟨_, rfl⟩
      rw [← hx] at k0 k1
      have HX := Lib.hid hx
      clear g0 hx
      by_cases hz : k = 0
      · subst hz
        clear hcell
        have k0' : w.cell? ⟨b, o, none⟩ = some (.string x.name) := by simpa using k0
        have k1' : w.cell? ⟨b, o + 1, none⟩ = some (.string x.value) := by simpa using k1
        clear k0 k1
        go_wp2
        refine wp_region_ext (by kernel_rfl) (by kernel_rfl) ?_
        repeat (go_big_quiet_step ((fail)))
        refine wpQuiet_nil ?_
        intro _ hw'
        obtain ⟨y1, rfl⟩ := hw'
        go_wp2
        refine ⟨⟨1, by omega, by go_num, fun q hq hqk => absurd hqk (by omega), (by repeat (first | exact Below.refl _ _ | apply bal | apply bext | apply bdr | apply bdrN | (refine bst ?_ _ (by simp only [ext_size, size_alloc, size_set]; omega))))⟩, by simp [intOf]; omega⟩
      · obtain ⟨j, rfl⟩ : ∃ j, k = j + 1 := ⟨k - 1, by omega⟩
        have g1 := labs_get xs j (by omega)
        have k2 : w.cell? ⟨b, o + j * 2, none⟩ = some (.string xs[j].name) := hcell _ _ g1.1
        obtain ⟨y, hy⟩ : ∃ y, y = xs[j] := ⟨_, rfl⟩
        rw [← hy] at k2
        have HY := Lib.hid hy
        have i0 : (0 : Int) < (j : Int) + 1 := by omega
        clear hcell g1 hy
        have hb : Op.bytesLess y.name.toList x.name.toList = ltS y.name x.name := rfl
        cases hl : ltS y.name x.name
        all_goals
          rw [hl] at hb
          have HL := Lib.hid hl
          clear hl
          go_wp2
          refine wp_region_ext (by kernel_rfl) (by kernel_rfl) ?_
          repeat (go_big_quiet_step ((fail)))
          refine wpQuiet_nil ?_
          intro _ hw'
          obtain ⟨y1, rfl⟩ := hw'
          go_wp2
        · go_ret
          refine ⟨ret_bool ?_, (by repeat (first | exact Below.refl _ _ | apply bal | apply bext | apply bdr | apply bdrN | (refine bst ?_ _ (by simp only [ext_size, size_alloc, size_set]; omega))))⟩
          unfold labsB
          rw [rises_bad hlt (by rw [← HX.out, ← HY.out]; exact HL.out)]
          rfl
        · refine ⟨⟨j + 1 + 1, by omega, by go_num, fun q hq hqk => ?_, (by repeat (first | exact Below.refl _ _ | apply bal | apply bext | apply bdr | apply bdrN | (refine bst ?_ _ (by simp only [ext_size, size_alloc, size_set]; omega))))⟩, by simp [intOf]; omega⟩
          rcases Nat.lt_succ_iff_lt_or_eq.1 hqk with h | h
          · exact HA.out q hq h
          · obtain rfl : q = j := by omega
            rw [← HX.out, ← HY.out]
            exact HL.out
    · have hr : risesB xs = true := rises_all fun q hq => HA.out q hq (by omega)
      have HR := Lib.hid hr
      clear hr
      go_wp2_with fail
      refine (HE.out _ (HS.out.stay (by repeat (first | exact Below.refl _ _ | apply bal | apply bext | apply bdr | apply bdrN | (refine bst ?_ _ (by simp only [ext_size, size_alloc, size_set]; omega)))))).mono ?_
      rintro e w' ⟨rfl, hb⟩
      obtain ⟨y1, rfl⟩ := ext_of hb
      clear hb
      go_wp2
      go_ret
      refine ⟨ret_bool ?_, (by repeat (first | exact Below.refl _ _ | apply bal | apply bext | apply bdr | apply bdrN | (refine bst ?_ _ (by simp only [ext_size, size_alloc, size_set]; omega))))⟩
      unfold labsB
      rw [HR.out]
      rfl
end Go.Proofs.YtndgollcganhmaaDoor
/- The contracts of layer 10's reference (labels), in the printer's form. -/
namespace Go.Proofs.YtndgollcganhmaaDoorQ.P
open Go.RowKit Go.Proofs.YtndgollcganhmaaDoorW.PrintWords Go.Proofs.YtndgollcganhmaaDoor
def foghornref10_each.f (l0 : List S41) : Option Bool := if labsOkB l0 = true then some (eachB (l0.map toLab)) else none
theorem foghornref10_each.calls (A0 : Option Addr) (c0 : Nat) (l0 : List S41) (r : Bool) (w : World) (hr0 : Kd.C k41 w A0 l0.length l0) (hc0 : l0.length ≤ c0) (h : foghornref10_each.f l0 = some r) :
    Calls Tryd.prog 18 #[.slice A0 l0.length c0] w fun e w' => e = .returned (.bool r) ∧ Below w.heap.size w w' := by
  obtain ⟨h1, rfl⟩ := if_some h
  exact refEach_any _ _ w (labs_c hr0 hc0) (labs_ok h1)
def foghornref10_Right.f (l0 : List S41) : Option Bool := if labsOkB l0 = true then some (labsB (l0.map toLab)) else none
theorem foghornref10_Right.calls (A0 : Option Addr) (c0 : Nat) (l0 : List S41) (r : Bool) (w : World) (hr0 : Kd.C k41 w A0 l0.length l0) (hc0 : l0.length ≤ c0) (h : foghornref10_Right.f l0 = some r) :
    Calls Tryd.prog 12 #[.slice A0 l0.length c0] w fun e w' => e = .returned (.bool r) ∧ Below w.heap.size w w' := by
  obtain ⟨h1, rfl⟩ := if_some h
  exact refRight10_any _ _ w (labs_c hr0 hc0) (labs_ok h1)
end Go.Proofs.YtndgollcganhmaaDoorQ.P
/- Printed by the kit's printer, with my stubs, for this claim. -/
namespace Go.Proofs.YtndgollcganhmaaDoorQ.P
open Go.RowKit Go.Proofs.YtndgollcganhmaaDoorW.PrintWords Go.Proofs.YtndgollcganhmaaDoorW.PrintLast Go.Proofs.YtndgollcganhmaaDoorW.PrintMore
attribute [local go_sem] max2_int min2_int max_two min_two max_three min_three max_four min_four   -- for this text's walks alone

/-! ### foghornref11_Of: function 13 -/
def foghornref11_Of.l0 : Nat → ByteArray → List (S41) → Int → Int → Option (ByteArray)
  | 0, _, _, _, _ => none
  | k + 1, x3, x6, x7, x8 => if x8 < x7 then (if 0 ≤ x8 then (if x8 < (x6.length : Int) then (if x3.size + ((rd_T41 x6 x8).f0).size ≤ 9223372036854775807 then (if (x3 ++ ((rd_T41 x6 x8).f0)).size + 1 ≤ 9223372036854775807 then (if ((x3 ++ ((rd_T41 x6 x8).f0)) ++ (⟨#[61]⟩ : ByteArray)).size + ((rd_T41 x6 x8).f1).size ≤ 9223372036854775807 then (if (((x3 ++ ((rd_T41 x6 x8).f0)) ++ (⟨#[61]⟩ : ByteArray)) ++ ((rd_T41 x6 x8).f1)).size + 1 ≤ 9223372036854775807 then (foghornref11_Of.l0 k ((((x3 ++ ((rd_T41 x6 x8).f0)) ++ (⟨#[61]⟩ : ByteArray)) ++ ((rd_T41 x6 x8).f1)) ++ (⟨#[10]⟩ : ByteArray)) x6 x7 (wrap64 (x8 + 1))) else (none)) else (none)) else (none)) else (none)) else (none)) else (none)) else ((foghornref11_More.f k 14695981039346656037 x3).bind fun t126 => ((foghornref11_Hex.f k t126).bind fun t127 => (some t127)))
def foghornref11_Of.f (k : Nat) (l0 : List (S41)) : Option (ByteArray) := foghornref11_Of.l0 k (⟨#[]⟩ : ByteArray) l0 (l0.length : Int) 0
theorem foghornref11_Of.mono_l : ∀ k, (∀ y0 y1 y2 y3, LeO (foghornref11_Of.l0 k y0 y1 y2 y3) (foghornref11_Of.l0 (k + 1) y0 y1 y2 y3))
  | 0 => fun _ _ _ _ r h => by simp [foghornref11_Of.l0] at h
  | k + 1 => by
    have ih0 := foghornref11_Of.mono_l k
    · intro y0 y1 y2 y3
      unfold foghornref11_Of.l0
      repeat' first
      | (with_reducible exact ih0 _ _ _ _)
      | (with_reducible exact foghornref11_Hex.mono _ _)
      | (with_reducible exact foghornref11_More.mono _ _ _)
      | (with_reducible exact LeO.refl _)
      | (with_reducible exact LeO.none _)
      | (with_reducible refine LeO.ite ?_ ?_)
      | (with_reducible refine LeO.bind ?_ (fun _ => ?_))
      | exact ih0 _ _ _ _
      | exact foghornref11_Hex.mono _ _
      | exact foghornref11_More.mono _ _ _
      | exact LeO.none _
      | refine LeO.ite ?_ ?_
      | refine LeO.bind ?_ (fun _ => ?_)
theorem foghornref11_Of.mono : ∀ a0 k, LeO (foghornref11_Of.f k a0) (foghornref11_Of.f (k + 1) a0) := by
  intro a0 k
  have ih0 := foghornref11_Of.mono_l k
  unfold foghornref11_Of.f
  repeat' first
      | (with_reducible exact ih0 _ _ _ _)
      | (with_reducible exact foghornref11_Hex.mono _ _)
      | (with_reducible exact foghornref11_More.mono _ _ _)
      | (with_reducible exact LeO.refl _)
      | (with_reducible exact LeO.none _)
      | (with_reducible refine LeO.ite ?_ ?_)
      | (with_reducible refine LeO.bind ?_ (fun _ => ?_))
      | exact ih0 _ _ _ _
      | exact foghornref11_Hex.mono _ _
      | exact foghornref11_More.mono _ _ _
      | exact LeO.none _
      | refine LeO.ite ?_ ?_
      | refine LeO.bind ?_ (fun _ => ?_)
set_option maxHeartbeats 8000000 in
set_option maxRecDepth 100000 in
theorem foghornref11_Of.calls (k : Nat) (A0 : Option Addr) (c0 : Nat) (l0 : List (S41)) (r : ByteArray) (w : World) (hr0 : Kd.C k41 w A0 l0.length l0) (hc0 : l0.length ≤ c0) (h : foghornref11_Of.f k l0 = some r) :
    Calls Tryd.prog 13 #[.slice A0 l0.length c0] w fun e w' => e = .returned (.string r) ∧ Below w.heap.size w w' := by
  have hu41 := Tryd.underlying41
  have HR0 := Aside0.mk hr0
  have HC0 := Aside0.mk hc0
  clear hr0 hc0
  have HB := Aside0.mk (Below.refl w.heap.size w)
  have H : (foghornref11_Of.l0 k (⟨#[]⟩ : ByteArray) l0 (l0.length : Int) 0) = some r := h
  clear h
  have H' := Aside0.mk H
  clear H
  go_enter Tryd.func13, Tryd.ntmps13
  go_wp2
  go_loopg [3, 8] k (fun kq v3 v8 w' => ∃ (x3_1 : ByteArray) (x8_1 : Int), v3 = .string x3_1 ∧ v8 = .int .i64 x8_1 ∧ Aside0 (foghornref11_Of.l0 kq x3_1 l0 (l0.length : Int) x8_1 = some r) ∧ Aside0 (kq ≤ k) ∧ Aside0 (Below w.heap.size w w'))
  case atStart => exact ⟨((⟨#[]⟩ : ByteArray)), (0), (by first | rfl | (simp; done) | (simp [*]; done)), (by first | rfl | (simp; done) | (simp [*]; done)), H', ⟨Nat.le_refl _⟩, ⟨by repeat (first | (with_reducible first | exact HB.out | apply below_alloc | apply pw_below_drewN | apply below_drew1) | exact HB.out)⟩⟩
  case round =>
    clear H'
    try clear c1
    obtain ⟨x3_1, x8_1, rfl, rfl, HA, HK1, HB⟩ := hrel
    cases gk with
    | zero => exact absurd HA.out (by simp [foghornref11_Of.l0])
    | succ k1 =>
      have H := HA.out
      clear HA
      simp only [foghornref11_Of.l0] at H
      by_cases c2 : x8_1 < (l0.length : Int)
      · rw [if_pos c2] at H
        have c2b0 : decide (x8_1 < (l0.length : Int)) = true := decide_eq_true c2
        clear c2
        by_cases c3 : 0 ≤ x8_1
        · rw [if_pos c3] at H
          have c3b0 : decide (0 ≤ x8_1) = true := decide_eq_true c3
          clear c3
          by_cases c4 : x8_1 < (l0.length : Int)
          · rw [if_pos c4] at H
            have c4b0 : decide (x8_1 < (l0.length : Int)) = true := decide_eq_true c4
            clear c4
            by_cases c5 : x3_1.size + ((rd_T41 l0 x8_1).f0).size ≤ 9223372036854775807
            · rw [if_pos c5] at H
              have c5b0 := eq_true c5
              have c5b1 : decide (x3_1.size + ((rd_T41 l0 x8_1).f0).size ≤ 9223372036854775807) = true := decide_eq_true c5
              try have c5b2 : (9223372036854775807 < x3_1.size + ((rd_T41 l0 x8_1).f0).size) = False := eq_false (Nat.not_lt.2 c5)
              by_cases c6 : (x3_1 ++ ((rd_T41 l0 x8_1).f0)).size + 1 ≤ 9223372036854775807
              · rw [if_pos c6] at H
                have c6b0 := eq_true c6
                have c6b1 : decide ((x3_1 ++ ((rd_T41 l0 x8_1).f0)).size + 1 ≤ 9223372036854775807) = true := decide_eq_true c6
                try have c6b2 : (9223372036854775807 < (x3_1 ++ ((rd_T41 l0 x8_1).f0)).size + 1) = False := eq_false (Nat.not_lt.2 c6)
                try have c6b3 : (9223372036854775807 < (x3_1).size + ((rd_T41 l0 x8_1).f0).size + 1) = False := eq_false (by have h_ := c6; simp only [ByteArray.size_append] at h_; omega)
                try have c6b4 : (9223372036854775807 ≤ (x3_1).size + ((rd_T41 l0 x8_1).f0).size) = False := eq_false (by have h_ := c6; simp only [ByteArray.size_append] at h_; omega)
                try have c6b5 : (9223372036854775807 ≤ ((x3_1 ++ ((rd_T41 l0 x8_1).f0))).size) = False := eq_false (by have h_ := c6; simp only [ByteArray.size_append] at h_; (simp only [ByteArray.size_append]; omega))
                by_cases c7 : ((x3_1 ++ ((rd_T41 l0 x8_1).f0)) ++ (⟨#[61]⟩ : ByteArray)).size + ((rd_T41 l0 x8_1).f1).size ≤ 9223372036854775807
                · rw [if_pos c7] at H
                  have c7b0 := eq_true c7
                  have c7b1 : decide (((x3_1 ++ ((rd_T41 l0 x8_1).f0)) ++ (⟨#[61]⟩ : ByteArray)).size + ((rd_T41 l0 x8_1).f1).size ≤ 9223372036854775807) = true := decide_eq_true c7
                  try have c7b2 : (9223372036854775807 < ((x3_1 ++ ((rd_T41 l0 x8_1).f0)) ++ (⟨#[61]⟩ : ByteArray)).size + ((rd_T41 l0 x8_1).f1).size) = False := eq_false (Nat.not_lt.2 c7)
                  try have c7b3 : (9223372036854775807 < (x3_1).size + ((rd_T41 l0 x8_1).f0).size + 1 + ((rd_T41 l0 x8_1).f1).size) = False := eq_false (by have h_ := c7; simp only [ByteArray.size_append] at h_; have : ((⟨#[61]⟩ : ByteArray)).size = 1 := rfl; omega)
                  by_cases c8 : (((x3_1 ++ ((rd_T41 l0 x8_1).f0)) ++ (⟨#[61]⟩ : ByteArray)) ++ ((rd_T41 l0 x8_1).f1)).size + 1 ≤ 9223372036854775807
                  · rw [if_pos c8] at H
                    have c8b0 := eq_true c8
                    have c8b1 : decide ((((x3_1 ++ ((rd_T41 l0 x8_1).f0)) ++ (⟨#[61]⟩ : ByteArray)) ++ ((rd_T41 l0 x8_1).f1)).size + 1 ≤ 9223372036854775807) = true := decide_eq_true c8
                    try have c8b2 : (9223372036854775807 < (((x3_1 ++ ((rd_T41 l0 x8_1).f0)) ++ (⟨#[61]⟩ : ByteArray)) ++ ((rd_T41 l0 x8_1).f1)).size + 1) = False := eq_false (Nat.not_lt.2 c8)
                    try have c8b3 : (9223372036854775807 < (x3_1).size + ((rd_T41 l0 x8_1).f0).size + 1 + ((rd_T41 l0 x8_1).f1).size + 1) = False := eq_false (by have h_ := c8; simp only [ByteArray.size_append] at h_; have : ((⟨#[61]⟩ : ByteArray)).size = 1 := rfl; omega)
                    try have c8b4 : (9223372036854775807 ≤ (x3_1).size + ((rd_T41 l0 x8_1).f0).size + 1 + ((rd_T41 l0 x8_1).f1).size) = False := eq_false (by have h_ := c8; simp only [ByteArray.size_append] at h_; have : ((⟨#[61]⟩ : ByteArray)).size = 1 := rfl; omega)
                    try have c8b5 : (9223372036854775807 ≤ ((((x3_1 ++ ((rd_T41 l0 x8_1).f0)) ++ (⟨#[61]⟩ : ByteArray)) ++ ((rd_T41 l0 x8_1).f1))).size) = False := eq_false (by have h_ := c8; simp only [ByteArray.size_append] at h_; have : ((⟨#[61]⟩ : ByteArray)).size = 1 := rfl; (simp only [ByteArray.size_append]; omega))
                    have H' := Aside0.mk H
                    clear H
                    have p124 : 0 ≤ (x8_1 : Int) := of_decide_eq_true (by first | (with_reducible assumption) | assumption)
                    have q124 : x8_1 < (l0.length : Int) := of_decide_eq_true (by first | (with_reducible assumption) | assumption)
                    obtain ⟨ad124, e124, hx124_0, hx124_1⟩ := at_T41 HR0.out x8_1 p124 q124
                    cases e124
                    replace hx124_0 := (HB.out.cell (World.block_lt_of_cell? w _ hx124_0)).trans hx124_0
                    replace hx124_1 := (HB.out.cell (World.block_lt_of_cell? w _ hx124_1)).trans hx124_1
                    replace p124 := eq_true p124
                    replace q124 := eq_true q124
                    go_wp2_with (first | ((with_reducible refine gate_dst (N := 5) rfl ?_); refine box_event ?hg (N := 5) ?hd (cs := #[.string (⟨#[]⟩ : ByteArray), .string (⟨#[]⟩ : ByteArray)]) (t := 41) ?hr ?_; (case hd => rfl); (case hg => rfl); (case hr => first | (go_simp; done) | (go_simp; rfl)); intro gb125 hg w9 hbox hb; have n0_ := Aside0.mk (below_step (by repeat (first | (with_reducible first | exact HB.out | apply below_alloc | apply pw_below_drewN | apply below_drew1) | exact HB.out)) hb); have n1_ := Aside0.mk (hbox); have n2_ := Aside0.mk ((by rw [hg]; exact (below_size (by repeat (first | (with_reducible first | exact HB.out | apply below_alloc | apply pw_below_drewN | apply below_drew1) | exact HB.out))) : w.heap.size ≤ gb125)); have n3_ := Aside0.mk ((by rw [hg]; exact (below_size (by repeat (first | (with_reducible first | exact HB.out | apply below_alloc | apply pw_below_drewN | apply below_drew1) | exact HB.out))) : w.heap.size ≤ gb125)); clear HB; have HB := n0_; have BK125 := n1_; have GW125 := n2_; have GE125 := n3_; clear n0_ n1_ n2_ n3_; clear hb hbox hg; have hcz10_0 : w9.cell? ⟨gb125, 0, none⟩ = some (.string (⟨#[]⟩ : ByteArray)) := (blk_cell BK125.out 0).trans rfl; have hcz10_1 : w9.cell? ⟨gb125, 1, none⟩ = some (.string (⟨#[]⟩ : ByteArray)) := (blk_cell BK125.out 1).trans rfl; have hfz10_0 := blk_frozen BK125.out 0; have hfz10_1 := blk_frozen BK125.out 1))
                    go_roundg k1
                    case measure => have := HK1.out; omega
                    case rel => exact ⟨((((x3_1 ++ ((rd_T41 l0 x8_1).f0)) ++ (⟨#[61]⟩ : ByteArray)) ++ ((rd_T41 l0 x8_1).f1)) ++ (⟨#[10]⟩ : ByteArray)), (wrap64 (x8_1 + 1)), (by first | rfl | (simp; done) | (simp [*]; done)), (by first | rfl | (simp; done) | (simp [*]; done)), H', ⟨by have := HK1.out; omega⟩, ⟨by repeat (first | (with_reducible first | exact HB.out | apply below_alloc | apply pw_below_drewN | apply below_drew1 | refine below_set ?_ GE125.out) | exact HB.out)⟩⟩
                  · rw [if_neg c8] at H
                    exact absurd H (by simp)
                · rw [if_neg c7] at H
                  exact absurd H (by simp)
              · rw [if_neg c6] at H
                exact absurd H (by simp)
            · rw [if_neg c5] at H
              exact absurd H (by simp)
          · rw [if_neg c4] at H
            exact absurd H (by simp)
        · rw [if_neg c3] at H
          exact absurd H (by simp)
      · rw [if_neg c2] at H
        have c2b0 : decide (x8_1 < (l0.length : Int)) = false := decide_eq_false c2
        clear c2
        replace H := Option.bind_eq_some_iff.mp H
        obtain ⟨t126, A110, H⟩ := H
        replace H : ((foghornref11_Hex.f k1 t126).bind fun t127 => (some t127)) = some r := H
        have A11 := Aside0.mk A110
        clear A110
        replace H := Option.bind_eq_some_iff.mp H
        obtain ⟨t127, A120, H⟩ := H
        replace H : (some t127) = some r := H
        have A12 := Aside0.mk A120
        clear A120
        obtain rfl := Option.some.inj H
        go_wp2_with (first | ((with_reducible refine gate_callee (f := 10) rfl ?_); refine goesL_ (some 23) rfl rfl Tryd.func10 (by kernel_rfl) rfl #[.int .u64 14695981039346656037, .string x3_1] rfl (by (try simp only [List.map_toArray, List.map_cons, List.map_nil]); first | done | rfl | (simp only [List.length_drop, List.length_take]; rfl)) ?_; (with_reducible refine (foghornref11_More.calls k1 14695981039346656037 x3_1 t126 _ A11.out).mono ?_); rintro e w' ⟨rfl, ⟨nd, rfl⟩⟩; refine ⟨_, rfl, ?_⟩) | ((with_reducible refine gate_callee (f := 11) rfl ?_); refine goesL_ (some 24) rfl rfl Tryd.func11 (by kernel_rfl) rfl #[.int .u64 t126] rfl (by (try simp only [List.map_toArray, List.map_cons, List.map_nil]); first | done | rfl | (simp only [List.length_drop, List.length_take]; rfl)) ?_; (with_reducible refine (foghornref11_Hex.calls k1 t126 t127 _ A12.out).mono ?_); rintro e w' ⟨rfl, ⟨nd, rfl⟩⟩; refine ⟨_, rfl, ?_⟩))
        go_ret
        exact ⟨by first | rfl | (simp [errW_none, errW_some] <;> rfl) | (simp [*, errW_none, errW_some] <;> rfl), by repeat (first | (with_reducible first | exact HB.out | apply below_alloc | apply pw_below_drewN | apply below_drew1) | exact HB.out)⟩

/-! ### foghornlaw11_FingerTells: function 4 -/
def foghornlaw11_FingerTells.j0 : Nat → List (S41) → ByteArray → Int → Bool → Option (Bool)
  | 0, _, _, _, _ => none
  | k + 1, x2, x7, x8, x38 => if x38 = true then (some false) else ((foghornref10_Right.f x2).bind fun t140 => (if t140 = true then (if x8 = 0 then ((foghornref11_Of.f k x2).bind fun t141 => (if x7.toList = t141.toList then (some ((x7.size : Int) == 16)) else (some false))) else (some false)) else (if x8 = 1 then (some (x7.toList == ([] : List UInt8))) else (some false))))
def foghornlaw11_FingerTells.f (k : Nat) (a0 : Int) (a1 : ByteArray) (l2 : List (S41)) : Option (Bool) := (foghornlaw11_few.f a1).bind fun t128 => (if 0 ≤ (mn (l2.length : Int) 5) then (if (mn (l2.length : Int) 5) ≤ (l2.length : Int) then ((some (l2.take ((mn (l2.length : Int) 5) : Int).toNat : List (S41))).bind fun y129 => ((finger_Of.f k y129).bind fun bt133 => ((finger_More.f a0 t128).bind fun t135 => ((foghornref11_More.f k a0 t128).bind fun t136 => (if t135 = t136 then ((finger_Hex.f a0).bind fun t137 => ((foghornref11_Hex.f k a0).bind fun t138 => (if t137.toList = t138.toList then ((foghornlaw11_alive.f).bind fun t139 => (foghornlaw11_FingerTells.j0 k y129 bt133.1 bt133.2 (!t139))) else (foghornlaw11_FingerTells.j0 k y129 bt133.1 bt133.2 true)))) else (foghornlaw11_FingerTells.j0 k y129 bt133.1 bt133.2 true)))))) else (none)) else (none))
theorem foghornlaw11_FingerTells.mono_l : ∀ k, (∀ y0 y1 y2 y3, LeO (foghornlaw11_FingerTells.j0 k y0 y1 y2 y3) (foghornlaw11_FingerTells.j0 (k + 1) y0 y1 y2 y3))
  | 0 => fun _ _ _ _ r h => by simp [foghornlaw11_FingerTells.j0] at h
  | k + 1 => by
    have ih0 := foghornlaw11_FingerTells.mono_l k
    · intro y0 y1 y2 y3
      unfold foghornlaw11_FingerTells.j0
      repeat' first
      | (with_reducible exact ih0 _ _ _ _)
      | (with_reducible exact finger_Of.mono _ _)
      | (with_reducible exact foghornref11_Hex.mono _ _)
      | (with_reducible exact foghornref11_More.mono _ _ _)
      | (with_reducible exact foghornref11_Of.mono _ _)
      | (with_reducible exact LeO.refl _)
      | (with_reducible exact LeO.none _)
      | (with_reducible refine LeO.ite ?_ ?_)
      | (with_reducible refine LeO.bind ?_ (fun _ => ?_))
      | exact ih0 _ _ _ _
      | exact finger_Of.mono _ _
      | exact foghornref11_Hex.mono _ _
      | exact foghornref11_More.mono _ _ _
      | exact foghornref11_Of.mono _ _
      | exact LeO.none _
      | refine LeO.ite ?_ ?_
      | refine LeO.bind ?_ (fun _ => ?_)
theorem foghornlaw11_FingerTells.mono : ∀ a0 a1 a2 k, LeO (foghornlaw11_FingerTells.f k a0 a1 a2) (foghornlaw11_FingerTells.f (k + 1) a0 a1 a2) := by
  intro a0 a1 a2 k
  have ih0 := foghornlaw11_FingerTells.mono_l k
  unfold foghornlaw11_FingerTells.f
  repeat' first
      | (with_reducible exact ih0 _ _ _ _)
      | (with_reducible exact finger_Of.mono _ _)
      | (with_reducible exact foghornref11_Hex.mono _ _)
      | (with_reducible exact foghornref11_More.mono _ _ _)
      | (with_reducible exact foghornref11_Of.mono _ _)
      | (with_reducible exact LeO.refl _)
      | (with_reducible exact LeO.none _)
      | (with_reducible refine LeO.ite ?_ ?_)
      | (with_reducible refine LeO.bind ?_ (fun _ => ?_))
      | exact ih0 _ _ _ _
      | exact finger_Of.mono _ _
      | exact foghornref11_Hex.mono _ _
      | exact foghornref11_More.mono _ _ _
      | exact foghornref11_Of.mono _ _
      | exact LeO.none _
      | refine LeO.ite ?_ ?_
      | refine LeO.bind ?_ (fun _ => ?_)
set_option maxHeartbeats 8000000 in
set_option maxRecDepth 100000 in
theorem foghornlaw11_FingerTells.calls (k : Nat) (a0 : Int) (a1 : ByteArray) (A2 : Option Addr) (c2 : Nat) (l2 : List (S41)) (r : Bool) (w : World) (hG : GOK w) (hr2 : Kd.C k41 w A2 l2.length l2) (hc2 : l2.length ≤ c2) (h : foghornlaw11_FingerTells.f k a0 a1 l2 = some r) :
    Calls Tryd.prog 4 #[.int .u64 a0, .string a1, .slice A2 l2.length c2] w fun e w' => e = .returned (.bool r) ∧ Below w.heap.size w w' := by
  have HR2 := Aside0.mk hr2
  have HC2 := Aside0.mk hc2
  clear hr2 hc2
  have HG := Aside0.mk hG
  clear hG
  have HB := Aside0.mk (Below.refl w.heap.size w)
  have H : ((foghornlaw11_few.f a1).bind fun t128 => (if 0 ≤ (mn (l2.length : Int) 5) then (if (mn (l2.length : Int) 5) ≤ (l2.length : Int) then ((some (l2.take ((mn (l2.length : Int) 5) : Int).toNat : List (S41))).bind fun y129 => ((finger_Of.f k y129).bind fun bt133 => ((finger_More.f a0 t128).bind fun t135 => ((foghornref11_More.f k a0 t128).bind fun t136 => (if t135 = t136 then ((finger_Hex.f a0).bind fun t137 => ((foghornref11_Hex.f k a0).bind fun t138 => (if t137.toList = t138.toList then ((foghornlaw11_alive.f).bind fun t139 => (foghornlaw11_FingerTells.j0 k y129 bt133.1 bt133.2 (!t139))) else (foghornlaw11_FingerTells.j0 k y129 bt133.1 bt133.2 true)))) else (foghornlaw11_FingerTells.j0 k y129 bt133.1 bt133.2 true)))))) else (none)) else (none))) = some r := h
  clear h
  replace H := Option.bind_eq_some_iff.mp H
  obtain ⟨t128, A40, H⟩ := H
  replace H : (if 0 ≤ (mn (l2.length : Int) 5) then (if (mn (l2.length : Int) 5) ≤ (l2.length : Int) then ((some (l2.take ((mn (l2.length : Int) 5) : Int).toNat : List (S41))).bind fun y129 => ((finger_Of.f k y129).bind fun bt133 => ((finger_More.f a0 t128).bind fun t135 => ((foghornref11_More.f k a0 t128).bind fun t136 => (if t135 = t136 then ((finger_Hex.f a0).bind fun t137 => ((foghornref11_Hex.f k a0).bind fun t138 => (if t137.toList = t138.toList then ((foghornlaw11_alive.f).bind fun t139 => (foghornlaw11_FingerTells.j0 k y129 bt133.1 bt133.2 (!t139))) else (foghornlaw11_FingerTells.j0 k y129 bt133.1 bt133.2 true)))) else (foghornlaw11_FingerTells.j0 k y129 bt133.1 bt133.2 true)))))) else (none)) else (none)) = some r := H
  have A4 := Aside0.mk A40
  clear A40
  obtain ⟨ji5, hji5⟩ : ∃ j_ : Int, (mn (l2.length : Int) 5) = j_ := ⟨_, rfl⟩
  replace H : (if 0 ≤ (ji5) then (if (ji5) ≤ (l2.length : Int) then ((some (l2.take ((ji5) : Int).toNat : List (S41))).bind fun y129 => ((finger_Of.f k y129).bind fun bt133 => ((finger_More.f a0 t128).bind fun t135 => ((foghornref11_More.f k a0 t128).bind fun t136 => (if t135 = t136 then ((finger_Hex.f a0).bind fun t137 => ((foghornref11_Hex.f k a0).bind fun t138 => (if t137.toList = t138.toList then ((foghornlaw11_alive.f).bind fun t139 => (foghornlaw11_FingerTells.j0 k y129 bt133.1 bt133.2 (!t139))) else (foghornlaw11_FingerTells.j0 k y129 bt133.1 bt133.2 true)))) else (foghornlaw11_FingerTells.j0 k y129 bt133.1 bt133.2 true)))))) else (none)) else (none)) = some r := by first | (rw [hji5] at H; exact H) | (simp only [hji5] at H ⊢; exact H)
  (try rw [hji5] at A4)
  (try (have hji5h : ji5 ≤ 5 := by (rw [← hji5]; unfold mn; (repeat' split) <;> omega)))
  (try (have hji5g : ji5 ≤ 64 := by omega))
  (try (have hji5l : 0 ≤ ji5 := by (rw [← hji5]; unfold mn; (repeat' split) <;> omega)))
  (try (have hji5m : 0 ≤ ji5 := by omega))
  have hji5_ : (if 5 < (l2.length : Int) then 5 else (l2.length : Int)) = ji5 := hji5
  by_cases c6 : 0 ≤ (ji5)
  · rw [if_pos c6] at H
    have c6b0 := eq_true c6
    have c6b1 : decide (0 ≤ (ji5)) = true := decide_eq_true c6
    clear c6
    by_cases c7 : (ji5) ≤ (l2.length : Int)
    · rw [if_pos c7] at H
      have c7b0 := eq_true c7
      have c7b1 : decide ((ji5) ≤ (l2.length : Int)) = true := decide_eq_true c7
      clear c7
      obtain ⟨y129, hy129⟩ : ∃ y_ : List (S41), y_ = (l2.take ((ji5) : Int).toNat) := ⟨_, rfl⟩
      replace H : ((finger_Of.f k y129).bind fun bt133 => ((finger_More.f a0 t128).bind fun t135 => ((foghornref11_More.f k a0 t128).bind fun t136 => (if t135 = t136 then ((finger_Hex.f a0).bind fun t137 => ((foghornref11_Hex.f k a0).bind fun t138 => (if t137.toList = t138.toList then ((foghornlaw11_alive.f).bind fun t139 => (foghornlaw11_FingerTells.j0 k y129 bt133.1 bt133.2 (!t139))) else (foghornlaw11_FingerTells.j0 k y129 bt133.1 bt133.2 true)))) else (foghornlaw11_FingerTells.j0 k y129 bt133.1 bt133.2 true))))) = some r := by first | (rw [hy129]; with_reducible exact H) | (have H2_ := (Option.bind_some _ _).symm.trans H; rw [hy129]; with_reducible exact H2_) | (have H2_ := (Option.bind_some _ _).symm.trans H; with_reducible exact H2_) | with_reducible exact H | (rw [hy129]; exact H) | exact H
      have Ny129 := Aside0.mk hy129
      clear hy129
      replace H := Option.bind_eq_some_iff.mp H
      obtain ⟨⟨t133, t134⟩, A80, H⟩ := H
      replace H : ((finger_More.f a0 t128).bind fun t135 => ((foghornref11_More.f k a0 t128).bind fun t136 => (if t135 = t136 then ((finger_Hex.f a0).bind fun t137 => ((foghornref11_Hex.f k a0).bind fun t138 => (if t137.toList = t138.toList then ((foghornlaw11_alive.f).bind fun t139 => (foghornlaw11_FingerTells.j0 k y129 t133 t134 (!t139))) else (foghornlaw11_FingerTells.j0 k y129 t133 t134 true)))) else (foghornlaw11_FingerTells.j0 k y129 t133 t134 true)))) = some r := H
      have A8 := Aside0.mk A80
      clear A80
      have HC9 := Aside0.mk H
      clear H
      go_enter Tryd.func4, Tryd.ntmps4
      go_upto_region 4 with (first | ((with_reducible refine gate_callee (f := 5) rfl ?_); refine goesL_ (some 10) rfl rfl Tryd.func5 (by kernel_rfl) rfl #[.string a1] rfl (by (try simp only [List.map_toArray, List.map_cons, List.map_nil]); first | done | rfl | (simp only [List.length_drop, List.length_take]; rfl)) ?_; (with_reducible refine (foghornlaw11_few.calls a1 t128 _ A4.out).mono ?_); rintro e w10 ⟨rfl, hb⟩; refine ⟨_, rfl, ?_⟩; have n0_ := Aside0.mk (below_step (by repeat (first | (with_reducible first | exact HB.out | apply below_alloc | apply pw_below_drewN | apply below_drew1) | exact HB.out)) hb); clear HB; have HB := n0_; clear n0_; (try clear hb); (try clear hb2); (try clear hk); (try clear hi); have q11 : ((ji5) : Int) ≤ ((l2.length : Int) : Int) := of_decide_eq_true (by first | (with_reducible assumption) | assumption); obtain ⟨i011, hi011, _, hsz11, _⟩ := info_parts info41; have hroom11 : l2.length ≤ c2 := HC2.out; have hC11 : Kd.C k41 _ A2 l2.length l2 := HR2.out; have hcut11 := cut_to (P := Tryd.prog) 29 41 .i64 Tryd.underlying29 hi011 A2 l2.length c2 (ji5) (of_decide_eq_true (by first | (with_reducible assumption) | assumption)) q11 hroom11; have hr11 := Kd.C_take (m := ((ji5) : Int).toNat) hC11 (by omega); have hy11 : y129.length = ((ji5) : Int).toNat := (by rw [Ny129.out, List.length_take]; omega); rw [← Ny129.out] at hr11; rw [← hy11] at hcut11; have HR132 := Aside0.mk hr11; have HC132 := Aside0.mk (show y129.length ≤ c2 from by omega); clear hr11 hC11 hroom11 hi011 hsz11; have KY11 := Aside0.mk hy11; clear hy11; replace q11 := eq_true q11) | ((with_reducible refine gate_callee (f := 9) rfl ?_); refine goesL_ (some 18) rfl rfl Tryd.func9 (by kernel_rfl) rfl #[.slice A2 y129.length c2] rfl (by (try simp only [List.map_toArray, List.map_cons, List.map_nil]); first | done | rfl | (simp only [List.length_drop, List.length_take]; rfl)) ?_; (with_reducible refine (finger_Of.calls k _ _ y129 t133 t134 _ ?side1 ?side2 ?side3 A8.out).mono ?_); (case side1 => exact gok_below HG.out (by repeat (first | (with_reducible first | exact HB.out | apply below_alloc | apply pw_below_drewN | apply below_drew1) | exact HB.out))); (case side2 => repeat (first | exact (Kd.C_below HR132.out HB.out) | (with_reducible refine Kd.C_alloc ?_ _) | (with_reducible refine Kd.C_drewN ?_ _) | (with_reducible refine Kd.C_drew ?_))); (case side3 => exact HC132.out); rintro e w12 ⟨rfl, hb⟩; refine ⟨_, rfl, ?_⟩; have n0_ := Aside0.mk (below_step (by repeat (first | (with_reducible first | exact HB.out | apply below_alloc | apply pw_below_drewN | apply below_drew1) | exact HB.out)) hb); clear HB; have HB := n0_; clear n0_; (try clear hb); (try clear hb2); (try clear hk); (try clear hi)))
      (try simp only [Act.put, List.setIfInBounds_toArray, List.set_cons_zero, List.set_cons_succ])
      go_cut [38] (fun v38 wc => ∃ (kq : Nat) (x38_8 : Bool), v38 = .bool x38_8 ∧ Aside0 (foghornlaw11_FingerTells.j0 kq y129 t133 t134 x38_8 = some r) ∧ Aside0 (kq ≤ k) ∧ Aside0 (Below w.heap.size w wc))
      case first =>
        have H := HC9.out
        clear HC9
        replace H := Option.bind_eq_some_iff.mp H
        obtain ⟨t135, A130, H⟩ := H
        replace H : ((foghornref11_More.f k a0 t128).bind fun t136 => (if t135 = t136 then ((finger_Hex.f a0).bind fun t137 => ((foghornref11_Hex.f k a0).bind fun t138 => (if t137.toList = t138.toList then ((foghornlaw11_alive.f).bind fun t139 => (foghornlaw11_FingerTells.j0 k y129 t133 t134 (!t139))) else (foghornlaw11_FingerTells.j0 k y129 t133 t134 true)))) else (foghornlaw11_FingerTells.j0 k y129 t133 t134 true))) = some r := H
        have A13 := Aside0.mk A130
        clear A130
        replace H := Option.bind_eq_some_iff.mp H
        obtain ⟨t136, A140, H⟩ := H
        replace H : (if t135 = t136 then ((finger_Hex.f a0).bind fun t137 => ((foghornref11_Hex.f k a0).bind fun t138 => (if t137.toList = t138.toList then ((foghornlaw11_alive.f).bind fun t139 => (foghornlaw11_FingerTells.j0 k y129 t133 t134 (!t139))) else (foghornlaw11_FingerTells.j0 k y129 t133 t134 true)))) else (foghornlaw11_FingerTells.j0 k y129 t133 t134 true)) = some r := H
        have A14 := Aside0.mk A140
        clear A140
        by_cases c15 : t135 = t136
        · rw [if_pos c15] at H
          have c15b0 : (t135 == t136) = true := beq_iff_eq.mpr c15
          have c15b1 : (t135 != t136) = false := bne_eq_false_iff_eq.mpr c15
          clear c15
          (first | rw [c15b0] | (simp only [i64_w, i32_w]; rw [c15b0]) | skip)
          replace H := Option.bind_eq_some_iff.mp H
          obtain ⟨t137, A160, H⟩ := H
          replace H : ((foghornref11_Hex.f k a0).bind fun t138 => (if t137.toList = t138.toList then ((foghornlaw11_alive.f).bind fun t139 => (foghornlaw11_FingerTells.j0 k y129 t133 t134 (!t139))) else (foghornlaw11_FingerTells.j0 k y129 t133 t134 true))) = some r := H
          have A16 := Aside0.mk A160
          clear A160
          replace H := Option.bind_eq_some_iff.mp H
          obtain ⟨t138, A170, H⟩ := H
          replace H : (if t137.toList = t138.toList then ((foghornlaw11_alive.f).bind fun t139 => (foghornlaw11_FingerTells.j0 k y129 t133 t134 (!t139))) else (foghornlaw11_FingerTells.j0 k y129 t133 t134 true)) = some r := H
          have A17 := Aside0.mk A170
          clear A170
          by_cases c18 : t137.toList = t138.toList
          · rw [if_pos c18] at H
            have c18b0 : (t137.toList == t138.toList) = true := beq_iff_eq.mpr c18
            have c18b1 : (t137.toList != t138.toList) = false := bne_eq_false_iff_eq.mpr c18
            clear c18
            replace H := Option.bind_eq_some_iff.mp H
            obtain ⟨t139, A190, H⟩ := H
            replace H : (foghornlaw11_FingerTells.j0 k y129 t133 t134 (!t139)) = some r := H
            have A19 := Aside0.mk A190
            clear A190
            have H' := Aside0.mk H
            clear H
            go_wp2_with (first | ((with_reducible refine gate_callee (f := 6) rfl ?_); refine goesL_ (some 23) rfl rfl Tryd.func6 (by kernel_rfl) rfl #[.int .u64 a0, .string t128] rfl (by (try simp only [List.map_toArray, List.map_cons, List.map_nil]); first | done | rfl | (simp only [List.length_drop, List.length_take]; rfl)) ?_; (with_reducible refine (finger_More.calls a0 t128 t135 _ A13.out).mono ?_); rintro e w20 ⟨rfl, hb⟩; refine ⟨_, rfl, ?_⟩; have n0_ := Aside0.mk (below_step (by repeat (first | (with_reducible first | exact HB.out | apply below_alloc | apply pw_below_drewN | apply below_drew1) | exact HB.out)) hb); clear HB; have HB := n0_; clear n0_; (try clear hb); (try clear hb2); (try clear hk); (try clear hi)) | ((with_reducible refine gate_callee (f := 10) rfl ?_); refine goesL_ (some 26) rfl rfl Tryd.func10 (by kernel_rfl) rfl #[.int .u64 a0, .string t128] rfl (by (try simp only [List.map_toArray, List.map_cons, List.map_nil]); first | done | rfl | (simp only [List.length_drop, List.length_take]; rfl)) ?_; (with_reducible refine (foghornref11_More.calls k a0 t128 t136 _ A14.out).mono ?_); rintro e w' ⟨rfl, ⟨nd, rfl⟩⟩; refine ⟨_, rfl, ?_⟩) | (go_at_call 7; (with_reducible refine (finger_Hex.calls a0 t137 _ ?side1 A16.out).mono ?_); (case side1 => exact gok_below HG.out (by repeat (first | (with_reducible first | exact HB.out | apply below_alloc | apply pw_below_drewN | apply below_drew1) | exact HB.out))); rintro e w21 ⟨rfl, hb⟩; have n0_ := Aside0.mk (below_step (by repeat (first | (with_reducible first | exact HB.out | apply below_alloc | apply pw_below_drewN | apply below_drew1) | exact HB.out)) hb); clear HB; have HB := n0_; clear n0_; (try clear hb); (try clear hb2); (try clear hk); (try clear hi)) | (go_at_call 11; (with_reducible refine (foghornref11_Hex.calls k a0 t138 _ A17.out).mono ?_); rintro e w' ⟨rfl, ⟨nd, rfl⟩⟩) | (go_at_call 8; (with_reducible refine (foghornlaw11_alive.calls  t139 _ ?side1 A19.out).mono ?_); (case side1 => exact gok_below HG.out (by repeat (first | (with_reducible first | exact HB.out | apply below_alloc | apply pw_below_drewN | apply below_drew1) | exact HB.out))); rintro e w22 ⟨rfl, hb⟩; have n0_ := Aside0.mk (below_step (by repeat (first | (with_reducible first | exact HB.out | apply below_alloc | apply pw_below_drewN | apply below_drew1) | exact HB.out)) hb); clear HB; have HB := n0_; clear n0_; (try clear hb); (try clear hb2); (try clear hk); (try clear hi)))
            go_meet
            case rel => exact ⟨_, (!t139), (by first | rfl | (simp; done) | (simp [*]; done)), H', ⟨by first | omega | exact Nat.le_refl _⟩, ⟨by repeat (first | (with_reducible first | exact HB.out | apply below_alloc | apply pw_below_drewN | apply below_drew1) | exact HB.out)⟩⟩
          · rw [if_neg c18] at H
            have c18b0 : (t137.toList == t138.toList) = false := beq_eq_false_iff_ne.mpr c18
            have c18b1 : (t137.toList != t138.toList) = true := bne_iff_ne.mpr c18
            have H' := Aside0.mk H
            clear H
            go_wp2_with (first | ((with_reducible refine gate_callee (f := 6) rfl ?_); refine goesL_ (some 23) rfl rfl Tryd.func6 (by kernel_rfl) rfl #[.int .u64 a0, .string t128] rfl (by (try simp only [List.map_toArray, List.map_cons, List.map_nil]); first | done | rfl | (simp only [List.length_drop, List.length_take]; rfl)) ?_; (with_reducible refine (finger_More.calls a0 t128 t135 _ A13.out).mono ?_); rintro e w23 ⟨rfl, hb⟩; refine ⟨_, rfl, ?_⟩; have n0_ := Aside0.mk (below_step (by repeat (first | (with_reducible first | exact HB.out | apply below_alloc | apply pw_below_drewN | apply below_drew1) | exact HB.out)) hb); clear HB; have HB := n0_; clear n0_; (try clear hb); (try clear hb2); (try clear hk); (try clear hi)) | ((with_reducible refine gate_callee (f := 10) rfl ?_); refine goesL_ (some 26) rfl rfl Tryd.func10 (by kernel_rfl) rfl #[.int .u64 a0, .string t128] rfl (by (try simp only [List.map_toArray, List.map_cons, List.map_nil]); first | done | rfl | (simp only [List.length_drop, List.length_take]; rfl)) ?_; (with_reducible refine (foghornref11_More.calls k a0 t128 t136 _ A14.out).mono ?_); rintro e w' ⟨rfl, ⟨nd, rfl⟩⟩; refine ⟨_, rfl, ?_⟩) | (go_at_call 7; (with_reducible refine (finger_Hex.calls a0 t137 _ ?side1 A16.out).mono ?_); (case side1 => exact gok_below HG.out (by repeat (first | (with_reducible first | exact HB.out | apply below_alloc | apply pw_below_drewN | apply below_drew1) | exact HB.out))); rintro e w24 ⟨rfl, hb⟩; have n0_ := Aside0.mk (below_step (by repeat (first | (with_reducible first | exact HB.out | apply below_alloc | apply pw_below_drewN | apply below_drew1) | exact HB.out)) hb); clear HB; have HB := n0_; clear n0_; (try clear hb); (try clear hb2); (try clear hk); (try clear hi)) | (go_at_call 11; (with_reducible refine (foghornref11_Hex.calls k a0 t138 _ A17.out).mono ?_); rintro e w' ⟨rfl, ⟨nd, rfl⟩⟩))
            go_meet
            case rel => exact ⟨_, (true), (by first | rfl | (simp; done) | (simp [*]; done)), H', ⟨by first | omega | exact Nat.le_refl _⟩, ⟨by repeat (first | (with_reducible first | exact HB.out | apply below_alloc | apply pw_below_drewN | apply below_drew1) | exact HB.out)⟩⟩
        · rw [if_neg c15] at H
          have c15b0 : (t135 == t136) = false := beq_eq_false_iff_ne.mpr c15
          have c15b1 : (t135 != t136) = true := bne_iff_ne.mpr c15
          (first | rw [c15b0] | (simp only [i64_w, i32_w]; rw [c15b0]) | skip)
          have H' := Aside0.mk H
          clear H
          go_wp2_with (first | ((with_reducible refine gate_callee (f := 6) rfl ?_); refine goesL_ (some 23) rfl rfl Tryd.func6 (by kernel_rfl) rfl #[.int .u64 a0, .string t128] rfl (by (try simp only [List.map_toArray, List.map_cons, List.map_nil]); first | done | rfl | (simp only [List.length_drop, List.length_take]; rfl)) ?_; (with_reducible refine (finger_More.calls a0 t128 t135 _ A13.out).mono ?_); rintro e w25 ⟨rfl, hb⟩; refine ⟨_, rfl, ?_⟩; have n0_ := Aside0.mk (below_step (by repeat (first | (with_reducible first | exact HB.out | apply below_alloc | apply pw_below_drewN | apply below_drew1) | exact HB.out)) hb); clear HB; have HB := n0_; clear n0_; (try clear hb); (try clear hb2); (try clear hk); (try clear hi)) | ((with_reducible refine gate_callee (f := 10) rfl ?_); refine goesL_ (some 26) rfl rfl Tryd.func10 (by kernel_rfl) rfl #[.int .u64 a0, .string t128] rfl (by (try simp only [List.map_toArray, List.map_cons, List.map_nil]); first | done | rfl | (simp only [List.length_drop, List.length_take]; rfl)) ?_; (with_reducible refine (foghornref11_More.calls k a0 t128 t136 _ A14.out).mono ?_); rintro e w' ⟨rfl, ⟨nd, rfl⟩⟩; refine ⟨_, rfl, ?_⟩))
          go_meet
          case rel => exact ⟨_, (true), (by first | rfl | (simp; done) | (simp [*]; done)), H', ⟨by first | omega | exact Nat.le_refl _⟩, ⟨by repeat (first | (with_reducible first | exact HB.out | apply below_alloc | apply pw_below_drewN | apply below_drew1) | exact HB.out)⟩⟩
      case rest =>
        clear HC9
        try clear c1
        try clear q1
        try clear c2
        try clear p2
        try clear c4
        try clear c5
        try clear c6
        try clear c6b0
        try clear c6b1
        try clear c7
        try clear c7b0
        try clear c7b1
        try clear c9
        try clear c10
        try clear q11
        try clear c15
        try clear c15b0
        try clear c15b1
        try clear c18
        try clear c18b0
        try clear c18b1
        try clear q11
        obtain ⟨kq, x38_8, rfl, HA, HJ8, HB⟩ := hcut
        cases kq with
        | zero => exact absurd HA.out (by simp [foghornlaw11_FingerTells.j0])
        | succ kj8 =>
          have H := HA.out
          clear HA
          simp only [foghornlaw11_FingerTells.j0] at H
          by_cases c26 : x38_8 = true
          · subst c26
            have H1 : (some false) = some r := by rw [if_pos rfl] at H; exact H
            clear H
            have H := H1
            clear H1
            obtain rfl := Option.some.inj H
            go_wp2
            go_ret
            exact ⟨by first | rfl | (simp [errW_none, errW_some] <;> rfl) | (simp only [← hji5]; first | rfl | (simp [errW_none, errW_some] <;> rfl)) | (simp [*, errW_none, errW_some] <;> rfl), by repeat (first | (with_reducible first | exact HB.out | apply below_alloc | apply pw_below_drewN | apply below_drew1) | exact HB.out)⟩
          · replace c26 := Bool.eq_false_iff.mpr c26
            subst c26
            have H1 : ((foghornref10_Right.f y129).bind fun t140 => (if t140 = true then (if t134 = 0 then ((foghornref11_Of.f kj8 y129).bind fun t141 => (if t133.toList = t141.toList then (some ((t133.size : Int) == 16)) else (some false))) else (some false)) else (if t134 = 1 then (some (t133.toList == ([] : List UInt8))) else (some false)))) = some r := by rw [if_neg (show ¬ (false = true) by decide)] at H; exact H
            clear H
            have H := H1
            clear H1
            replace H := Option.bind_eq_some_iff.mp H
            obtain ⟨t140, A270, H⟩ := H
            replace H : (if t140 = true then (if t134 = 0 then ((foghornref11_Of.f kj8 y129).bind fun t141 => (if t133.toList = t141.toList then (some ((t133.size : Int) == 16)) else (some false))) else (some false)) else (if t134 = 1 then (some (t133.toList == ([] : List UInt8))) else (some false))) = some r := H
            have A27 := Aside0.mk A270
            clear A270
            by_cases c28 : t140 = true
            · subst c28
              have H1 : (if t134 = 0 then ((foghornref11_Of.f kj8 y129).bind fun t141 => (if t133.toList = t141.toList then (some ((t133.size : Int) == 16)) else (some false))) else (some false)) = some r := by rw [if_pos rfl] at H; exact H
              clear H
              have H := H1
              clear H1
              by_cases c29 : t134 = 0
              · rw [if_pos c29] at H
                have c29b0 : (t134 == 0) = true := beq_iff_eq.mpr c29
                have c29b1 : (t134 != 0) = false := bne_eq_false_iff_eq.mpr c29
                clear c29
                replace H := Option.bind_eq_some_iff.mp H
                obtain ⟨t141, A300, H⟩ := H
                replace H : (if t133.toList = t141.toList then (some ((t133.size : Int) == 16)) else (some false)) = some r := H
                have A30 := Aside0.mk A300
                clear A300
                by_cases c31 : t133.toList = t141.toList
                · rw [if_pos c31] at H
                  have c31b0 : (t133.toList == t141.toList) = true := beq_iff_eq.mpr c31
                  have c31b1 : (t133.toList != t141.toList) = false := bne_eq_false_iff_eq.mpr c31
                  clear c31
                  obtain rfl := Option.some.inj H
                  go_wp2_with (first | ((with_reducible refine gate_callee (f := 12) rfl ?_); refine goesL_ (some 40) rfl rfl Tryd.func12 (by kernel_rfl) rfl #[.slice A2 y129.length c2] rfl (by (try simp only [List.map_toArray, List.map_cons, List.map_nil]); first | done | rfl | (simp only [List.length_drop, List.length_take]; rfl)) ?_; (with_reducible refine (foghornref10_Right.calls _ _ y129 true _ ?side1 ?side2 A27.out).mono ?_); (case side1 => repeat (first | exact (Kd.C_below HR132.out HB.out) | (with_reducible refine Kd.C_alloc ?_ _) | (with_reducible refine Kd.C_drewN ?_ _) | (with_reducible refine Kd.C_drew ?_))); (case side2 => exact HC132.out); rintro e w32 ⟨rfl, hb⟩; refine ⟨_, rfl, ?_⟩; have n0_ := Aside0.mk (below_step (by repeat (first | (with_reducible first | exact HB.out | apply below_alloc | apply pw_below_drewN | apply below_drew1) | exact HB.out)) hb); clear HB; have HB := n0_; clear n0_; (try clear hb); (try clear hb2); (try clear hk); (try clear hi)) | (go_at_call 13; (with_reducible refine (foghornref11_Of.calls kj8 _ _ y129 t141 _ ?side1 ?side2 A30.out).mono ?_); (case side1 => repeat (first | exact (Kd.C_below HR132.out HB.out) | (with_reducible refine Kd.C_alloc ?_ _) | (with_reducible refine Kd.C_drewN ?_ _) | (with_reducible refine Kd.C_drew ?_))); (case side2 => exact HC132.out); rintro e w33 ⟨rfl, hb⟩; have n0_ := Aside0.mk (below_step (by repeat (first | (with_reducible first | exact HB.out | apply below_alloc | apply pw_below_drewN | apply below_drew1) | exact HB.out)) hb); clear HB; have HB := n0_; clear n0_; (try clear hb); (try clear hb2); (try clear hk); (try clear hi)))
                  go_ret
                  exact ⟨by first | rfl | (simp [errW_none, errW_some] <;> rfl) | (simp only [← hji5]; first | rfl | (simp [errW_none, errW_some] <;> rfl)) | (simp [*, errW_none, errW_some] <;> rfl), by repeat (first | (with_reducible first | exact HB.out | apply below_alloc | apply pw_below_drewN | apply below_drew1) | exact HB.out)⟩
                · rw [if_neg c31] at H
                  have c31b0 : (t133.toList == t141.toList) = false := beq_eq_false_iff_ne.mpr c31
                  have c31b1 : (t133.toList != t141.toList) = true := bne_iff_ne.mpr c31
                  obtain rfl := Option.some.inj H
                  go_wp2_with (first | ((with_reducible refine gate_callee (f := 12) rfl ?_); refine goesL_ (some 40) rfl rfl Tryd.func12 (by kernel_rfl) rfl #[.slice A2 y129.length c2] rfl (by (try simp only [List.map_toArray, List.map_cons, List.map_nil]); first | done | rfl | (simp only [List.length_drop, List.length_take]; rfl)) ?_; (with_reducible refine (foghornref10_Right.calls _ _ y129 true _ ?side1 ?side2 A27.out).mono ?_); (case side1 => repeat (first | exact (Kd.C_below HR132.out HB.out) | (with_reducible refine Kd.C_alloc ?_ _) | (with_reducible refine Kd.C_drewN ?_ _) | (with_reducible refine Kd.C_drew ?_))); (case side2 => exact HC132.out); rintro e w34 ⟨rfl, hb⟩; refine ⟨_, rfl, ?_⟩; have n0_ := Aside0.mk (below_step (by repeat (first | (with_reducible first | exact HB.out | apply below_alloc | apply pw_below_drewN | apply below_drew1) | exact HB.out)) hb); clear HB; have HB := n0_; clear n0_; (try clear hb); (try clear hb2); (try clear hk); (try clear hi)) | (go_at_call 13; (with_reducible refine (foghornref11_Of.calls kj8 _ _ y129 t141 _ ?side1 ?side2 A30.out).mono ?_); (case side1 => repeat (first | exact (Kd.C_below HR132.out HB.out) | (with_reducible refine Kd.C_alloc ?_ _) | (with_reducible refine Kd.C_drewN ?_ _) | (with_reducible refine Kd.C_drew ?_))); (case side2 => exact HC132.out); rintro e w35 ⟨rfl, hb⟩; have n0_ := Aside0.mk (below_step (by repeat (first | (with_reducible first | exact HB.out | apply below_alloc | apply pw_below_drewN | apply below_drew1) | exact HB.out)) hb); clear HB; have HB := n0_; clear n0_; (try clear hb); (try clear hb2); (try clear hk); (try clear hi)))
                  go_ret
                  exact ⟨by first | rfl | (simp [errW_none, errW_some] <;> rfl) | (simp only [← hji5]; first | rfl | (simp [errW_none, errW_some] <;> rfl)) | (simp [*, errW_none, errW_some] <;> rfl), by repeat (first | (with_reducible first | exact HB.out | apply below_alloc | apply pw_below_drewN | apply below_drew1) | exact HB.out)⟩
              · rw [if_neg c29] at H
                have c29b0 : (t134 == 0) = false := beq_eq_false_iff_ne.mpr c29
                have c29b1 : (t134 != 0) = true := bne_iff_ne.mpr c29
                obtain rfl := Option.some.inj H
                go_wp2_with (first | ((with_reducible refine gate_callee (f := 12) rfl ?_); refine goesL_ (some 40) rfl rfl Tryd.func12 (by kernel_rfl) rfl #[.slice A2 y129.length c2] rfl (by (try simp only [List.map_toArray, List.map_cons, List.map_nil]); first | done | rfl | (simp only [List.length_drop, List.length_take]; rfl)) ?_; (with_reducible refine (foghornref10_Right.calls _ _ y129 true _ ?side1 ?side2 A27.out).mono ?_); (case side1 => repeat (first | exact (Kd.C_below HR132.out HB.out) | (with_reducible refine Kd.C_alloc ?_ _) | (with_reducible refine Kd.C_drewN ?_ _) | (with_reducible refine Kd.C_drew ?_))); (case side2 => exact HC132.out); rintro e w36 ⟨rfl, hb⟩; refine ⟨_, rfl, ?_⟩; have n0_ := Aside0.mk (below_step (by repeat (first | (with_reducible first | exact HB.out | apply below_alloc | apply pw_below_drewN | apply below_drew1) | exact HB.out)) hb); clear HB; have HB := n0_; clear n0_; (try clear hb); (try clear hb2); (try clear hk); (try clear hi)))
                go_ret
                exact ⟨by first | rfl | (simp [errW_none, errW_some] <;> rfl) | (simp only [← hji5]; first | rfl | (simp [errW_none, errW_some] <;> rfl)) | (simp [*, errW_none, errW_some] <;> rfl), by repeat (first | (with_reducible first | exact HB.out | apply below_alloc | apply pw_below_drewN | apply below_drew1) | exact HB.out)⟩
            · replace c28 := Bool.eq_false_iff.mpr c28
              subst c28
              have H1 : (if t134 = 1 then (some (t133.toList == ([] : List UInt8))) else (some false)) = some r := by rw [if_neg (show ¬ (false = true) by decide)] at H; exact H
              clear H
              have H := H1
              clear H1
              by_cases c37 : t134 = 1
              · rw [if_pos c37] at H
                have c37b0 : (t134 == 1) = true := beq_iff_eq.mpr c37
                have c37b1 : (t134 != 1) = false := bne_eq_false_iff_eq.mpr c37
                clear c37
                obtain rfl := Option.some.inj H
                go_wp2_with (first | ((with_reducible refine gate_callee (f := 12) rfl ?_); refine goesL_ (some 40) rfl rfl Tryd.func12 (by kernel_rfl) rfl #[.slice A2 y129.length c2] rfl (by (try simp only [List.map_toArray, List.map_cons, List.map_nil]); first | done | rfl | (simp only [List.length_drop, List.length_take]; rfl)) ?_; (with_reducible refine (foghornref10_Right.calls _ _ y129 false _ ?side1 ?side2 A27.out).mono ?_); (case side1 => repeat (first | exact (Kd.C_below HR132.out HB.out) | (with_reducible refine Kd.C_alloc ?_ _) | (with_reducible refine Kd.C_drewN ?_ _) | (with_reducible refine Kd.C_drew ?_))); (case side2 => exact HC132.out); rintro e w38 ⟨rfl, hb⟩; refine ⟨_, rfl, ?_⟩; have n0_ := Aside0.mk (below_step (by repeat (first | (with_reducible first | exact HB.out | apply below_alloc | apply pw_below_drewN | apply below_drew1) | exact HB.out)) hb); clear HB; have HB := n0_; clear n0_; (try clear hb); (try clear hb2); (try clear hk); (try clear hi)))
                go_ret
                exact ⟨by first | rfl | (simp [errW_none, errW_some] <;> rfl) | (simp only [← hji5]; first | rfl | (simp [errW_none, errW_some] <;> rfl)) | (simp [*, errW_none, errW_some] <;> rfl), by repeat (first | (with_reducible first | exact HB.out | apply below_alloc | apply pw_below_drewN | apply below_drew1) | exact HB.out)⟩
              · rw [if_neg c37] at H
                have c37b0 : (t134 == 1) = false := beq_eq_false_iff_ne.mpr c37
                have c37b1 : (t134 != 1) = true := bne_iff_ne.mpr c37
                obtain rfl := Option.some.inj H
                go_wp2_with (first | ((with_reducible refine gate_callee (f := 12) rfl ?_); refine goesL_ (some 40) rfl rfl Tryd.func12 (by kernel_rfl) rfl #[.slice A2 y129.length c2] rfl (by (try simp only [List.map_toArray, List.map_cons, List.map_nil]); first | done | rfl | (simp only [List.length_drop, List.length_take]; rfl)) ?_; (with_reducible refine (foghornref10_Right.calls _ _ y129 false _ ?side1 ?side2 A27.out).mono ?_); (case side1 => repeat (first | exact (Kd.C_below HR132.out HB.out) | (with_reducible refine Kd.C_alloc ?_ _) | (with_reducible refine Kd.C_drewN ?_ _) | (with_reducible refine Kd.C_drew ?_))); (case side2 => exact HC132.out); rintro e w39 ⟨rfl, hb⟩; refine ⟨_, rfl, ?_⟩; have n0_ := Aside0.mk (below_step (by repeat (first | (with_reducible first | exact HB.out | apply below_alloc | apply pw_below_drewN | apply below_drew1) | exact HB.out)) hb); clear HB; have HB := n0_; clear n0_; (try clear hb); (try clear hb2); (try clear hk); (try clear hi)))
                go_ret
                exact ⟨by first | rfl | (simp [errW_none, errW_some] <;> rfl) | (simp only [← hji5]; first | rfl | (simp [errW_none, errW_some] <;> rfl)) | (simp [*, errW_none, errW_some] <;> rfl), by repeat (first | (with_reducible first | exact HB.out | apply below_alloc | apply pw_below_drewN | apply below_drew1) | exact HB.out)⟩
    · rw [if_neg c7] at H
      exact absurd H (by simp)
  · rw [if_neg c6] at H
    exact absurd H (by simp)

end Go.Proofs.YtndgollcganhmaaDoorQ.P
/- Printed by the kit's printer, with my stubs, for this claim. -/
namespace Go.Proofs.YtndgollcganhmaaDoorQ.P
open Go.RowKit Go.Proofs.YtndgollcganhmaaDoorW.PrintWords Go.Proofs.YtndgollcganhmaaDoorW.PrintLast Go.Proofs.YtndgollcganhmaaDoorW.PrintMore
attribute [local go_sem] max2_int min2_int max_two min_two max_three min_three max_four min_four   -- for this text's walks alone

end Go.Proofs.YtndgollcganhmaaDoorQ.P
/- The plain laws of layer 11. -/
namespace Go.Proofs.YtndgollcganhmaaDoorQ.P
open Go.RowKit Go.Proofs.YtndgollcganhmaaDoorW.PrintWords Go.Proofs.YtndgollcganhmaaDoorW.PrintLast Go.Proofs.YtndgollcganhmaaDoorW.PrintMore Go.Proofs.YtndgollcganhmaaDoor
def U64 (x : Int) : Prop := 0 ≤ x ∧ x < 18446744073709551616
theorem u64_of {a : Int} (h : (Lit.int .u64 a).wf = true) : U64 a := by
  simp [Lit.wf, IntKind.min, IntKind.max, IntKind.signed, IntKind.bits] at h
  unfold U64
  omega
theorem u8_of {a : Int} (h : (Lit.int .u8 a).wf = true) : 0 ≤ a ∧ a < 256 := by
  simp [Lit.wf, IntKind.min, IntKind.max, IntKind.signed, IntKind.bits] at h
  omega
theorem i64_of {a : Int} (h : (Lit.int .i64 a).wf = true) : -9223372036854775808 ≤ a ∧ a ≤ 9223372036854775807 := by
  simp [Lit.wf, IntKind.min, IntKind.max, IntKind.signed, IntKind.bits] at h
  omega
theorem few11_f (x : ByteArray) : foghornlaw11_few.f x = some (cutB 300 x) := by
  unfold foghornlaw11_few.f
  have e1 := mn_eq (x.size : Int) 300
  rw [if_pos (by omega), if_pos (by omega), cutB_mn 300 300 _ rfl]
theorem more11_f {h : Int} {x : ByteArray} (hh : U64 h) (hx : x.size ≤ 1000000) : finger_More.f h x = some (fnvL h x.data.toList) := if_pos ⟨hh.1, hh.2, by unfold maxLen; omega⟩
theorem hex11_f {h : Int} (hh : U64 h) : finger_Hex.f h = some (hexT h.toNat) := if_pos hh
theorem fnv_u64 {h : Int} (hh : U64 h) (l : List UInt8) : U64 (fnvL h l) := fnvL_range l h hh.1 hh.2
theorem fnv_iff {h g : Int} (hh : U64 h) (hg : U64 g) (l : List UInt8) : (fnvL h l == fnvL g l) = (h == g) := by
  rw [Bool.eq_iff_iff, beq_iff_eq, beq_iff_eq]
  exact ⟨fun e => fnvL_inj l hh hg e, fun e => by rw [e]⟩
theorem hexT_iff {h g : Int} (hh : U64 h) (hg : U64 g) : ((hexT h.toNat).toList == (hexT g.toNat).toList) = (h == g) := by
  obtain ⟨h0, h1⟩ := hh
  obtain ⟨g0, g1⟩ := hg
  rw [Bool.eq_iff_iff, beq_iff_eq, beq_iff_eq]
  constructor
  · intro e
    rw [ByteArray.toList_eq, ByteArray.toList_eq] at e
    have e2 : hexD 16 h.toNat = hexD 16 g.toNat := by simpa [hexT] using e
    have := hexD_inj 16 (a := h.toNat) (b := g.toNat) (by rw [show (16 : Nat) ^ 16 = 18446744073709551616 by decide +kernel]; omega) (by rw [show (16 : Nat) ^ 16 = 18446744073709551616 by decide +kernel]; omega) e2
    omega
  · intro e
    rw [e]
theorem alive11_f : foghornlaw11_alive.f = some true := by
  unfold foghornlaw11_alive.f
  rw [more11_f (by unfold U64; omega) (by decide), Option.bind_some, hex11_f (fnv_u64 (by unfold U64; omega) _), Option.bind_some]
  decide +kernel
theorem xor8_iff {b x : Int} (hb : 0 ≤ b ∧ b < 256) (hx : 0 ≤ x ∧ x < 256) : (0 ≤ Go.bits .xor .u8 b x ∧ Go.bits .xor .u8 b x < 256) ∧ (Go.bits .xor .u8 b x = b ↔ x = 0) := by
  have key : ∀ p q : Fin 256, (0 ≤ Go.bits .xor .u8 (p.val : Int) (q.val : Int) ∧ Go.bits .xor .u8 (p.val : Int) (q.val : Int) < 256) ∧ (Go.bits .xor .u8 (p.val : Int) (q.val : Int) = (p.val : Int) ↔ (q.val : Int) = 0) := by
    intro p q
    have h1 : BitVec.ofInt 8 (p.val : Int) = BitVec.ofNat 8 p.val := by apply BitVec.eq_of_toNat_eq; simp
    have h2 : BitVec.ofInt 8 (q.val : Int) = BitVec.ofNat 8 q.val := by apply BitVec.eq_of_toNat_eq; simp
    have h3 : Go.bits .xor .u8 (p.val : Int) (q.val : Int) = ((BitVec.ofInt 8 (p.val : Int) ^^^ BitVec.ofInt 8 (q.val : Int)).toNat : Int) % 256 := by
      simp [Go.bits, IntKind.bits, IntKind.wrap, IntKind.signed]
      exact congrArg (fun x : Nat => (x : Int) % 256) (BitVec.toNat_xor _ _)
    rw [h3, h1, h2]
    have h4 := (BitVec.ofNat 8 p.val ^^^ BitVec.ofNat 8 q.val).isLt
    refine ⟨by omega, ?_⟩
    have hp := p.isLt
    have hq := q.isLt
    constructor
    · intro e
      have e2 : (BitVec.ofNat 8 p.val ^^^ BitVec.ofNat 8 q.val) = BitVec.ofNat 8 p.val := by
        apply BitVec.eq_of_toNat_eq
        rw [BitVec.toNat_ofNat]
        omega
      have e3 : BitVec.ofNat 8 p.val ^^^ (BitVec.ofNat 8 p.val ^^^ BitVec.ofNat 8 q.val) = BitVec.ofNat 8 p.val ^^^ BitVec.ofNat 8 p.val := by rw [e2]
      rw [← BitVec.xor_assoc, BitVec.xor_self, BitVec.zero_xor] at e3
      have := congrArg BitVec.toNat e3
      rw [BitVec.toNat_ofNat] at this
      simp at this
      omega
    · intro e
      have : q.val = 0 := by omega
      rw [this]
      simp
      omega
  have := key ⟨b.toNat, by omega⟩ ⟨x.toNat, by omega⟩
  simp only at this
  rwa [show ((b.toNat : Nat) : Int) = b by omega, show ((x.toNat : Nat) : Int) = x by omega] at this
theorem place11 {n : Nat} (a : Int) (h : 0 < n) (hn : n ≤ 1000000) (ha : -9223372036854775808 ≤ a ∧ a ≤ 9223372036854775807) : ∃ p : Nat, p < n ∧ Int.tmod (wrap64 (Int.tmod a (n : Int) + (n : Int))) (n : Int) = (p : Int) := by
  have h1 : -(n : Int) < Int.tmod a n ∧ Int.tmod a n < n := by
    rcases Int.le_total 0 a with h | h
    · rw [Int.tmod_eq_emod_of_nonneg h]
      have := Int.emod_nonneg a (show (n : Int) ≠ 0 by omega)
      have := Int.emod_lt_of_pos a (show (0 : Int) < n by omega)
      omega
    · have : Int.tmod a n = -((-a) % n) := by
        rw [← Int.tmod_eq_emod_of_nonneg (by omega : (0:Int) ≤ -a), Int.neg_tmod, Int.neg_neg]
      rw [this]
      have := Int.emod_nonneg (-a) (show (n : Int) ≠ 0 by omega)
      have := Int.emod_lt_of_pos (-a) (show (0 : Int) < n by omega)
      omega
  rw [w64 (by omega) (by omega), Int.tmod_eq_emod_of_nonneg (by omega)]
  have h2 := Int.emod_nonneg (Int.tmod a n + n) (show (n : Int) ≠ 0 by omega)
  have h3 := Int.emod_lt_of_pos (Int.tmod a n + n) (show (0 : Int) < n by omega)
  exact ⟨((Int.tmod a n + n) % n).toNat, by omega, by omega⟩
theorem turned_size (s : ByteArray) (p : Nat) (c : Int) : (s.extract 0 p).size ≤ s.size ∧ (strOfNums [c]).size = 1 ∧ (s.extract (p + 1) s.size).size ≤ s.size := by
  refine ⟨by rw [ByteArray.size_extract]; omega, by rw [strOfNums_size]; rfl, by rw [ByteArray.size_extract]; omega⟩
theorem turned_small (s : ByteArray) (p : Nat) (c : Int) (h : s.size ≤ 300) : (s.extract 0 p).size + (strOfNums [c]).size ≤ 9223372036854775807 := by
  obtain ⟨h1, h2, h3⟩ := turned_size s p c
  omega
theorem turned_small2 (s : ByteArray) (p : Nat) (c : Int) (h : s.size ≤ 300) : ((s.extract 0 p) ++ (strOfNums [c])).size + (s.extract (p + 1) s.size).size ≤ 9223372036854775807 := by
  obtain ⟨h1, h2, h3⟩ := turned_size s p c
  rw [ByteArray.size_append]
  omega
theorem turned_more (s : ByteArray) (p : Nat) (c a0 : Int) (h : s.size ≤ 300) (h0 : U64 a0) : finger_More.f a0 (((s.extract 0 p) ++ (strOfNums [c])) ++ (s.extract (p + 1) s.size)) = some (fnvL a0 (((s.extract 0 p) ++ (strOfNums [c])) ++ (s.extract (p + 1) s.size)).data.toList) := by
  obtain ⟨h1, h2, h3⟩ := turned_size s p c
  exact more11_f h0 (by rw [ByteArray.size_append, ByteArray.size_append]; omega)
theorem turned_same (s : ByteArray) (p : Nat) (c a0 a5 : Int) (hp : p < s.size) (h0 : U64 a0) (hc : 0 ≤ c ∧ c < 256) (x2 : c = ((s[p]).toNat : Int) ↔ a5 = 0) :
    ((fnvL a0 (((s.extract 0 p) ++ (strOfNums [c])) ++ (s.extract (p + 1) s.size)).data.toList == fnvL a0 s.data.toList) == (a5 == 0)) = true := by
  have d1 : s.data.toList = s.data.toList.take p ++ s[p] :: s.data.toList.drop (p + 1) := by
    have hh : p < s.data.toList.length := by rw [len_data]; exact hp
    have : s[p] = s.data.toList[p] := by simp; rfl
    rw [this, ← List.drop_eq_getElem_cons hh, List.take_append_drop]
  have d2 : (((s.extract 0 p) ++ (strOfNums [c])) ++ (s.extract (p + 1) s.size)).data.toList = s.data.toList.take p ++ UInt8.ofNat c.toNat :: s.data.toList.drop (p + 1) := by
    rw [ByteArray.data_append, ByteArray.data_append, Array.toList_append, Array.toList_append, strOfNums_data, ByteArray.data_extract, ByteArray.data_extract]
    simp [Array.toList_extract, List.extract_eq_take_drop]
    apply List.take_of_length_le
    simp [len_data]
  rw [d2, fnvL_append]
  have d3 : fnvL a0 s.data.toList = fnvL (fnvL a0 (s.data.toList.take p)) (s[p] :: s.data.toList.drop (p + 1)) := by
    rw [← fnvL_append, ← d1]
  rw [d3]
  have hu := fnv_u64 h0 (s.data.toList.take p)
  generalize fnvL a0 (s.data.toList.take p) = h at *
  have hcn : ((UInt8.ofNat c.toNat).toNat : Int) = c := by
    rw [UInt8.toNat_ofNat']
    omega
  show ((fnvL (fnvS h (UInt8.ofNat c.toNat).toNat) _ == fnvL (fnvS h (s[p]).toNat) _) == (a5 == 0)) = true
  rw [fnv_iff (fnvS_range _ _) (fnvS_range _ _), hcn, beq_iff_eq, Bool.eq_iff_iff, beq_iff_eq, beq_iff_eq]
  constructor
  · intro e
    exact x2.1 (fnvS_inj2 hu ⟨hc.1, by omega⟩ (u8_u64 _) e)
  · intro e
    rw [x2.2 e]
theorem fingerTurns_pure (a0 a1 : Int) (a2 a3 : ByteArray) (a4 a5 : Int) (h0 : U64 a0) (h1 : U64 a1) (h4 : -9223372036854775808 ≤ a4 ∧ a4 ≤ 9223372036854775807) (h5 : 0 ≤ a5 ∧ a5 < 256) : foghornlaw11_FingerTurns.f 2 a0 a1 a2 a3 a4 a5 = some true := by
  unfold foghornlaw11_FingerTurns.f
  have hs := cutB_size 300 a2
  have ht := cutB_size 300 a3
  rw [few11_f, few11_f, Option.bind_some, Option.bind_some]
  generalize cutB 300 a2 = s at *
  generalize cutB 300 a3 = t at *
  have hl : s.size ≤ 300 := by omega
  have hl2 : t.size ≤ 300 := by omega
  rw [more11_f h0 (by omega), more11_f h1 (by omega), Option.bind_some, Option.bind_some, fnv_iff h0 h1, bool_bne_self, if_neg (by simp), Option.bind_some, more11_f (fnv_u64 h0 _) (by omega), Option.bind_some, if_pos (by omega),
    more11_f h0 (by rw [ByteArray.size_append]; omega), Option.bind_some, ByteArray.data_append, Array.toList_append, fnvL_append, if_pos rfl, hex11_f h0, hex11_f h1, Option.bind_some, Option.bind_some, hexT_iff h0 h1, bool_bne_self, if_neg (by simp), alive11_f, Option.bind_some]
  simp only [foghornlaw11_FingerTurns.j0]
  rw [if_neg (by simp)]
  by_cases he : s.toList = []
  · rw [if_pos he, more11_f h0 (by omega), Option.bind_some]
    rw [ByteArray.toList_eq] at he
    rw [he]
    simp [fnvL]
  · have hpos : 0 < s.size := by
      rcases Nat.eq_zero_or_pos s.size with h | h
      · rw [ByteArray.toList_eq] at he
        exact absurd (List.eq_nil_of_length_eq_zero (by rw [len_data, h])) he
      · exact h
    obtain ⟨p, hp, hpe⟩ := place11 a4 hpos (by omega) h4
    have hb : bt s (p : Int) = ((s[p]).toNat : Int) := by
      unfold bt
      rw [dif_pos (by simpa using hp)]
      simp
    obtain ⟨⟨x0, x1⟩, x2⟩ := xor8_iff (b := ((s[p]).toNat : Int)) (x := a5) (by have := (s[p]).toNat_lt; omega) h5
    rw [if_neg he, if_neg (by omega), hpe, if_pos (by omega), if_pos (by omega), if_pos (by omega), Option.bind_some, hb]
    generalize Go.bits .xor .u8 ((s[p]).toNat : Int) a5 = c at *
    clear hb hpe he
    have z3 : wrap64 ((p : Int) + 1) = ((p + 1 : Nat) : Int) := w64s (by omega)
    have q1 : (s.extract 0 p).size + (strOfNums [c]).size ≤ 9223372036854775807 := turned_small s p c hl
    have q2 : ((s.extract 0 p) ++ (strOfNums [c])).size + (s.extract (p + 1) s.size).size ≤ 9223372036854775807 := turned_small2 s p c hl
    have q3 : (p : Int) < (s.size : Int) := by omega
    have q4 : ((p + 1 : Nat) : Int) ≤ (s.size : Int) := by omega
    rw [z3, Int.toNat_natCast, Int.toNat_natCast, if_pos q1, if_pos (Int.natCast_nonneg _), if_pos q4, if_pos q2, turned_more s p c a0 hl h0, more11_f h0 (by omega), Option.bind_some, Option.bind_some, turned_same s p c a0 a5 hp h0 ⟨x0, x1⟩ x2]
theorem FingerTurns_walk (a0 a1 : Int) (a2 a3 : ByteArray) (a4 a5 : Int) (w : World) (hG : GOK w) (h0 : (Lit.int .u64 a0).wf = true) (h1 : (Lit.int .u64 a1).wf = true) (h2 : a2.size ≤ maxLen) (h3 : a3.size ≤ maxLen) (h4 : (Lit.int .i64 a4).wf = true) (h5 : (Lit.int .u8 a5).wf = true) :
    Calls Tryd.prog 3 #[.int .u64 a0, .int .u64 a1, .string a2, .string a3, .int .i64 a4, .int .u8 a5] w fun e w' => e = .returned (.bool true) ∧ Below w.heap.size w w' :=
  foghornlaw11_FingerTurns.calls 2 a0 a1 a2 a3 a4 a5 true w hG (fingerTurns_pure a0 a1 a2 a3 a4 a5 (u64_of h0) (u64_of h1) (i64_of h4) (u8_of h5))
end Go.Proofs.YtndgollcganhmaaDoorQ.P
/- Labels put in order, plain. No program in sight. -/
namespace Go.Proofs.YtndgollcganhmaaDoor
open Go.RowKit
def ltL (a b : Lab) : Prop := ltS a.name b.name = true
def neL (a b : Lab) : Prop := a.name ≠ b.name
theorem ltL_trans {a b c : Lab} (h : ltL a b) (k : ltL b c) : ltL a c := ltS_trans h k
theorem ltL_ne {a b : Lab} (h : ltL a b) : neL a b := by
  intro e
  unfold ltL at h
  rw [e, ltS_self] at h
  exact absurd h (by simp)
theorem rises_pair : ∀ {xs : List Lab}, risesB xs = true ↔ xs.Pairwise ltL
  | [] => by simp [risesB]
  | [x] => by simp [risesB]
  | x :: y :: r => by
    have ih := rises_pair (xs := y :: r)
    unfold risesB
    rw [Bool.and_eq_true, ih, List.pairwise_cons (a := x)]
    constructor
    · rintro ⟨h1, h2⟩
      refine ⟨fun z hz => ?_, h2⟩
      rcases List.mem_cons.1 hz with rfl | hz
      · exact h1
      · exact ltL_trans h1 ((List.pairwise_cons.1 h2).1 z hz)
    · rintro ⟨h1, h2⟩
      exact ⟨h1 y (by simp), h2⟩
theorem ne_pair {xs : List Lab} (h : risesB xs = true) : xs.Pairwise neL := (rises_pair.1 h).imp ltL_ne
theorem ne_perm {xs ys : List Lab} (h : xs.Perm ys) : xs.Pairwise neL ↔ ys.Pairwise neL := h.pairwise_iff fun h => fun e => h e.symm
theorem sorted_rises {ys : List Lab} (hs : ∀ i j (hi : i < j) (hj : j < ys.length), ltS ys[j].name (ys[i]'(by omega)).name = false) (hn : ys.Pairwise neL) : risesB ys = true := by
  rw [rises_pair, List.pairwise_iff_getElem]
  intro i j hi hj hij
  have h1 := hs i j hij hj
  have h2 := (List.pairwise_iff_getElem.1 hn) i j hi hj hij
  rcases ltS_total ys[i].name ys[j].name with h | h | h
  · exact h
  · exact absurd h h2
  · rw [h] at h1; exact absurd h1 (by simp)
theorem rises_unique : ∀ {xs ys : List Lab}, xs.Pairwise ltL → ys.Pairwise ltL → xs.Perm ys → xs = ys
  | [], ys, _, _, h => (List.Perm.nil_eq h)
  | x :: xs, [], _, _, h => absurd h.length_eq (by simp)
  | x :: xs, y :: ys, h1, h2, h => by
    have hx := (List.pairwise_cons.1 h1).1
    have hy := (List.pairwise_cons.1 h2).1
    have e : x = y := by
      have m1 : x ∈ y :: ys := h.subset (by simp)
      have m2 : y ∈ x :: xs := h.symm.subset (by simp)
      rcases List.mem_cons.1 m1 with e | m1
      · exact e
      · rcases List.mem_cons.1 m2 with e | m2
        · exact e.symm
        · have := ltL_trans (hx y m2) (hy x m1)
          exact absurd rfl (ltL_ne this)
    subst e
    rw [rises_unique (List.pairwise_cons.1 h1).2 (List.pairwise_cons.1 h2).2 (List.perm_cons x |>.1 h)]
/-- One label put in its place. -/
def insL (x : Lab) : List Lab → List Lab
  | [] => [x]
  | y :: r => if ltS x.name y.name = true then x :: y :: r else y :: insL x r
theorem insL_perm (x : Lab) : ∀ l : List Lab, (insL x l).Perm (x :: l)
  | [] => List.Perm.refl _
  | y :: r => by
    unfold insL
    split
    · exact List.Perm.refl _
    · exact ((insL_perm x r).cons y).trans (List.Perm.swap x y r)
theorem insL_rises (x : Lab) : ∀ l : List Lab, l.Pairwise ltL → (∀ y ∈ l, neL x y) → (insL x l).Pairwise ltL
  | [], _, _ => by simp [insL]
  | y :: r, h, hn => by
    obtain ⟨h1, h2⟩ := List.pairwise_cons.1 h
    unfold insL
    split
    · rename_i hlt
      refine List.pairwise_cons.2 ⟨fun z hz => ?_, h⟩
      rcases List.mem_cons.1 hz with rfl | hz
      · exact hlt
      · exact ltL_trans hlt (h1 z hz)
    · rename_i hlt
      have hyx : ltL y x := by
        rcases ltS_total x.name y.name with h3 | h3 | h3
        · exact absurd h3 hlt
        · exact absurd h3 (hn y (by simp))
        · exact h3
      refine List.pairwise_cons.2 ⟨fun z hz => ?_, insL_rises x r h2 fun z hz => hn z (by simp [hz])⟩
      rcases List.mem_cons.1 ((insL_perm x r).subset hz) with rfl | hz
      · exact hyx
      · exact h1 z hz
/-- All put in order, one behind the other; none: a name is there twice. -/
def sortO : List Lab → List Lab → Option (List Lab)
  | out, [] => some out
  | out, x :: r => if out.any (fun y => x.name.toList == y.name.toList) then none else sortO (insL x out) r
theorem any_name (x : Lab) (out : List Lab) : out.any (fun y => x.name.toList == y.name.toList) = true ↔ ∃ y ∈ out, x.name = y.name := by
  rw [List.any_eq_true]
  constructor
  · rintro ⟨y, hy, h⟩
    exact ⟨y, hy, bytes_of_eq h⟩
  · rintro ⟨y, hy, h⟩
    exact ⟨y, hy, by rw [h]; exact bytes_eq_self _⟩
theorem sortO_some : ∀ (xs out res : List Lab), out.Pairwise ltL → sortO out xs = some res → res.Pairwise ltL ∧ res.Perm (out ++ xs)
  | [], out, res, h, hs => by
    unfold sortO at hs
    injection hs with hs
    subst hs
    exact ⟨h, by rw [List.append_nil]⟩
  | x :: r, out, res, h, hs => by
    unfold sortO at hs
    split at hs
    · cases hs
    · rename_i hn
      have hne : ∀ y ∈ out, neL x y := fun y hy e => hn ((any_name x out).2 ⟨y, hy, e⟩)
      obtain ⟨h1, h2⟩ := sortO_some r (insL x out) res (insL_rises x out h hne) hs
      refine ⟨h1, h2.trans ?_⟩
      exact ((insL_perm x out).append_right r).trans List.perm_middle.symm
theorem sortO_none : ∀ (xs out : List Lab), sortO out xs = none → ¬ (out ++ xs).Pairwise neL
  | [], out, hs => by unfold sortO at hs; cases hs
  | x :: r, out, hs => by
    intro hp
    unfold sortO at hs
    split at hs
    · rename_i hn
      obtain ⟨y, hy, e⟩ := (any_name x out).1 hn
      have := (List.pairwise_append.1 hp).2.2 y hy x (by simp)
      exact this e.symm
    · refine sortO_none r (insL x out) hs ?_
      have : (insL x out ++ r).Perm (out ++ x :: r) := ((insL_perm x out).append_right r).trans List.perm_middle.symm
      exact (ne_perm this).2 hp
def sortE (xs : List Lab) : Int := if eachB xs = true then (match sortO [] xs with | some _ => 0 | none => 11) else 1
def sortL (xs : List Lab) : List Lab := if eachB xs = true then (sortO [] xs).getD [] else []
/-- Whatever sorts a list so, has made it this one, if it rises. -/
theorem sort_meets {xs ys : List Lab} (hp : ys.Perm xs) (hs : ∀ i j (hi : i < j) (hj : j < ys.length), ltS ys[j].name (ys[i]'(by omega)).name = false) :
    (risesB ys = true ∧ sortO [] xs = some ys) ∨ (risesB ys = false ∧ sortO [] xs = none) := by
  cases h : sortO [] xs with
  | some res =>
    obtain ⟨h1, h2⟩ := sortO_some xs [] res List.Pairwise.nil h
    rw [List.nil_append] at h2
    have hn : ys.Pairwise neL := (ne_perm (hp.trans h2.symm)).2 (h1.imp ltL_ne)
    have hr := sorted_rises hs hn
    have := rises_unique (rises_pair.1 hr) h1 (hp.trans h2.symm)
    exact .inl ⟨hr, by rw [this]⟩
  | none =>
    refine .inr ⟨?_, rfl⟩
    cases hr : risesB ys
    · rfl
    · exact absurd ((ne_perm hp).1 (ne_pair hr)) (by simpa using sortO_none xs [] h)
theorem eachB_perm {xs ys : List Lab} (h : ys.Perm xs) : eachB ys = eachB xs := by
  unfold eachB
  rw [h.length_eq, h.any_eq]
/-! ### the reference's inner loop -/
/-- What has been laid behind some of the labels, x put ahead of the first that it is less than. -/
def midL (x : Lab) : List Lab → List Lab
  | [] => []
  | y :: r => if ltS x.name y.name = true then x :: y :: r else y :: midL x r
/-- Is x less than one of them? -/
def lessAny (x : Lab) (l : List Lab) : Bool := l.any fun y => ltS x.name y.name
theorem midL_cons (x y : Lab) (r : List Lab) : midL x (y :: r) = if ltS x.name y.name = true then x :: y :: r else y :: midL x r := rfl
theorem midL_snoc_done (x y : Lab) : ∀ l : List Lab, lessAny x l = true → midL x (l ++ [y]) = midL x l ++ [y]
  | [], h => by simp [lessAny] at h
  | z :: r, h => by
    rw [List.cons_append, midL_cons, midL_cons]
    split
    · rfl
    · rename_i hz
      rw [midL_snoc_done x y r (by simpa [lessAny, hz] using h)]
      rfl
theorem midL_not (x : Lab) : ∀ l : List Lab, lessAny x l = false → midL x l = l ∧ insL x l = l ++ [x]
  | [], _ => ⟨rfl, rfl⟩
  | z :: r, h => by
    have h1 : ltS x.name z.name = false := by
      cases e : ltS x.name z.name
      · rfl
      · simp [lessAny, e] at h
    have h2 : lessAny x r = false := by simpa [lessAny, h1] using h
    obtain ⟨h3, h4⟩ := midL_not x r h2
    unfold midL insL
    rw [if_neg (by simp [h1]), if_neg (by simp [h1]), h3, h4]
    exact ⟨rfl, rfl⟩
theorem midL_ins (x : Lab) : ∀ l : List Lab, lessAny x l = true → midL x l = insL x l
  | [], h => by simp [lessAny] at h
  | z :: r, h => by
    unfold midL insL
    split
    · rfl
    · rename_i hz
      rw [midL_ins x r (by simpa [lessAny, hz] using h)]
theorem midL_snoc_here (x y : Lab) (l : List Lab) (h : lessAny x l = false) (hy : ltS x.name y.name = true) : midL x (l ++ [y]) = midL x l ++ [x, y] := by
  induction l with
  | nil => simp [midL, hy]
  | cons z r ih =>
    have h1 : ltS x.name z.name = false := by
      cases e : ltS x.name z.name
      · rfl
      · simp [lessAny, e] at h
    have h2 : lessAny x r = false := by simpa [lessAny, h1] using h
    rw [List.cons_append, midL_cons, midL_cons, if_neg (by simp [h1]), if_neg (by simp [h1]), ih h2]
    rfl
theorem midL_snoc_not (x y : Lab) (l : List Lab) (h : lessAny x l = false) (hy : ltS x.name y.name = false) : midL x (l ++ [y]) = midL x l ++ [y] := by
  have h1 : lessAny x (l ++ [y]) = false := by simp [lessAny] at *; exact ⟨h, hy⟩
  rw [(midL_not x _ h1).1, (midL_not x _ h).1]
end Go.Proofs.YtndgollcganhmaaDoor
/- The plain law of FingerTells. -/
namespace Go.Proofs.YtndgollcganhmaaDoorQ.P
open Go.RowKit Go.Proofs.YtndgollcganhmaaDoorW.PrintWords Go.Proofs.YtndgollcganhmaaDoorW.PrintLast Go.Proofs.YtndgollcganhmaaDoorW.PrintMore Go.Proofs.YtndgollcganhmaaDoor
theorem bt_nat {s : ByteArray} {i : Nat} (h : i < s.size) : bt s (i : Int) = ((s[i]).toNat : Int) := by
  unfold bt
  rw [dif_pos (by simpa using h)]
  simp
theorem drop_bytes {s : ByteArray} {i : Nat} (h : i < s.size) : s.data.toList.drop i = s[i] :: s.data.toList.drop (i + 1) := by
  have hh : i < s.data.toList.length := by rw [len_data]; exact h
  have : s[i] = s.data.toList[i] := by simp; rfl
  rw [this, ← List.drop_eq_getElem_cons hh]
theorem refMore_l (s : ByteArray) (hs : s.size ≤ 1000000) (d : Nat) : ∀ (k i : Nat) (h : Int), i + d = s.size → d < k → foghornref11_More.l0 k h s i = some (fnvL h (s.data.toList.drop i)) := by
  induction d with
  | zero =>
    intro k i h hi hk
    obtain ⟨k, rfl⟩ : ∃ m, k = m + 1 := ⟨k - 1, by omega⟩
    simp only [foghornref11_More.l0]
    rw [if_neg (by omega), List.drop_eq_nil_of_le (by rw [len_data]; omega)]
    rfl
  | succ d ih =>
    intro k i h hi hk
    obtain ⟨k, rfl⟩ : ∃ m, k = m + 1 := ⟨k - 1, by omega⟩
    have hlt : i < s.size := by omega
    have hb : IntKind.u64.wrap ((s[i]).toNat : Int) = ((s[i]).toNat : Int) := by rw [wrap_u64]; have := (s[i]).toNat_lt; omega
    simp only [foghornref11_More.l0]
    rw [if_pos (by omega), if_pos (by omega), bt_nat hlt, hb, w64s (by omega), ih k (i + 1) _ (by omega) (by omega), drop_bytes hlt]
    rfl
theorem refMore_f (k : Nat) (h : Int) (s : ByteArray) (hs : s.size ≤ 1000) (hk : 1001 ≤ k) : foghornref11_More.f k h s = some (fnvL h s.data.toList) := by
  have := refMore_l s (by omega) s.size k 0 h (by omega) (by omega)
  simpa [foghornref11_More.f] using this
set_option maxRecDepth 100000 in
theorem dig_at (n : Nat) (hn : n < 16) : (ByteArray.mk #[48, 49, 50, 51, 52, 53, 54, 55, 56, 57, 97, 98, 99, 100, 101, 102]).extract n (n + 1) = ⟨#[hexC n]⟩ := by
  have : ∀ n : Fin 16, (ByteArray.mk #[48, 49, 50, 51, 52, 53, 54, 55, 56, 57, 97, 98, 99, 100, 101, 102]).extract n.val (n.val + 1) = ⟨#[hexC n]⟩ := by decide +kernel
  exact this ⟨n, hn⟩
theorem refHex_l (d : Nat) : ∀ (k i n : Nat) (out : ByteArray), i + d = 16 → d < k → n < 18446744073709551616 → out.size = i → foghornref11_Hex.l0 k (n : Int) out (i : Int) = some (⟨(hexD d n).toArray⟩ ++ out) := by
  induction d with
  | zero =>
    intro k i n out h hk hn ho
    obtain ⟨k, rfl⟩ : ∃ m, k = m + 1 := ⟨k - 1, by omega⟩
    simp only [foghornref11_Hex.l0]
    rw [if_neg (by omega)]
    have e : (⟨(hexD 0 n).toArray⟩ : ByteArray) ++ out = out := by
      apply ByteArray.ext
      simp [ByteArray.data_append, hexD]
    rw [e]
  | succ d ih =>
    intro k i n out h hk hn ho
    obtain ⟨k, rfl⟩ : ∃ m, k = m + 1 := ⟨k - 1, by omega⟩
    have e1 : wrap64 (Int.tmod (n : Int) 16) = ((n % 16 : Nat) : Int) := by
      rw [Int.tmod_eq_emod_of_nonneg (by omega), w64 (by omega) (by omega)]
      omega
    have e2 : IntKind.u64.wrap (Int.tdiv (n : Int) 16) = ((n / 16 : Nat) : Int) := by
      rw [Int.tdiv_eq_ediv_of_nonneg (by omega), wrap_u64]
      omega
    have e3 := dig_at (n % 16) (by omega)
    have e4 : wrap64 (((n % 16 : Nat) : Int) + 1) = ((n % 16 + 1 : Nat) : Int) := w64s (by omega)
    simp only [foghornref11_Hex.l0]
    rw [e1, e4, e2, Int.toNat_natCast, Int.toNat_natCast, e3, if_pos (by omega), if_pos (by omega), if_pos (by omega), if_pos (by omega), if_pos (by show 1 + out.size ≤ _; omega), w64s (by omega),
      ih k (i + 1) (n / 16) _ (by omega) (by omega) (by omega) (by rw [ByteArray.size_append]; show 1 + out.size = _; omega)]
    congr 1
    apply ByteArray.ext
    simp [ByteArray.data_append, hexD]
theorem refHex_f (k : Nat) (h : Int) (hk : 17 ≤ k) (hh : U64 h) : foghornref11_Hex.f k h = some (hexT h.toNat) := by
  obtain ⟨h0, h1⟩ := hh
  obtain ⟨n, rfl⟩ : ∃ n : Nat, h = n := ⟨h.toNat, by omega⟩
  have h3 := refHex_l 16 k 0 n ⟨#[]⟩ (by omega) (by omega) (by omega) rfl
  have e : (⟨(hexD 16 n).toArray⟩ : ByteArray) ++ ⟨#[]⟩ = hexT n := by
    unfold hexT
    generalize hexD 16 n = l
    apply ByteArray.ext
    simp [ByteArray.data_append]
  rw [e] at h3
  rw [Int.toNat_natCast]
  exact h3
theorem rdL11 {xs : List S41} {i : Nat} (h : i < xs.length) : rd_T41 xs (i : Int) = xs[i] := getD_cast h
/-- A label's text. -/
def labT (x : S41) : List UInt8 := x.f0.data.toList ++ [61] ++ x.f1.data.toList ++ [10]
def labsT (xs : List S41) : List UInt8 := xs.flatMap labT
def Small (xs : List S41) : Prop := ∀ x ∈ xs, x.f0.size ≤ 8 ∧ x.f1.size ≤ 8
theorem of_l (xs : List S41) (hx : xs.length ≤ 5) (hs : Small xs) (d : Nat) : ∀ (k i : Nat) (h : Int), i + d = xs.length → d < k → U64 h → finger_Of.l0 k h xs (xs.length : Int) i = some (hexT (fnvL h (labsT (xs.drop i))).toNat, 0) := by
  induction d with
  | zero =>
    intro k i h hi hk hh
    obtain ⟨k, rfl⟩ : ∃ m, k = m + 1 := ⟨k - 1, by omega⟩
    simp only [finger_Of.l0]
    rw [if_neg (by omega), drop_end (by omega), hex11_f hh]
    rfl
  | succ d ih =>
    intro k i h hi hk hh
    obtain ⟨k, rfl⟩ : ∃ m, k = m + 1 := ⟨k - 1, by omega⟩
    have hlt : i < xs.length := by omega
    obtain ⟨s0, s1⟩ := hs xs[i] (List.getElem_mem hlt)
    have one : ∀ b : UInt8, (ByteArray.mk #[b]).size = 1 := fun _ => rfl
    simp only [finger_Of.l0]
    rw [rdL11 hlt, if_pos (by omega), if_pos (by omega), if_pos (by omega), if_pos (by omega), if_pos (by rw [ByteArray.size_append, one]; omega), if_pos (by rw [ByteArray.size_append, ByteArray.size_append, one]; omega),
      more11_f hh (by rw [ByteArray.size_append, ByteArray.size_append, ByteArray.size_append, one, one]; omega), Option.bind_some, w64s (by omega), ih k (i + 1) _ (by omega) (by omega) (fnv_u64 hh _), drop_cons hlt]
    unfold labsT
    rw [List.flatMap_cons, fnvL_append]
    simp only [ByteArray.data_append, Array.toList_append, labT]
theorem refOf_l (xs : List S41) (hx : xs.length ≤ 5) (hs : Small xs) (d : Nat) : ∀ (k i : Nat) (s : ByteArray), i + d = xs.length → d + 1001 < k → s.size ≤ i * 20 → foghornref11_Of.l0 k s xs (xs.length : Int) i = some (hexT (fnvL (fnvL 14695981039346656037 s.data.toList) (labsT (xs.drop i))).toNat) := by
  induction d with
  | zero =>
    intro k i s hi hk hz
    obtain ⟨k, rfl⟩ : ∃ m, k = m + 1 := ⟨k - 1, by omega⟩
    simp only [foghornref11_Of.l0]
    rw [if_neg (by omega), drop_end (by omega), refMore_f k _ s (by omega) (by omega), Option.bind_some, refHex_f k _ (by omega) (fnv_u64 (by unfold U64; omega) _)]
    rfl
  | succ d ih =>
    intro k i s hi hk hz
    obtain ⟨k, rfl⟩ : ∃ m, k = m + 1 := ⟨k - 1, by omega⟩
    have hlt : i < xs.length := by omega
    obtain ⟨s0, s1⟩ := hs xs[i] (List.getElem_mem hlt)
    have one : ∀ b : UInt8, (ByteArray.mk #[b]).size = 1 := fun _ => rfl
    simp only [foghornref11_Of.l0]
    rw [rdL11 hlt, if_pos (by omega), if_pos (by omega), if_pos (by omega), if_pos (by omega), if_pos (by rw [ByteArray.size_append]; omega), if_pos (by rw [ByteArray.size_append, ByteArray.size_append, one]; omega), if_pos (by rw [ByteArray.size_append, ByteArray.size_append, ByteArray.size_append, one]; omega),
      w64s (by omega), ih k (i + 1) _ (by omega) (by omega) (by rw [ByteArray.size_append, ByteArray.size_append, ByteArray.size_append, ByteArray.size_append, one, one]; omega), drop_cons hlt]
    unfold labsT
    rw [List.flatMap_cons]
    simp only [ByteArray.data_append, Array.toList_append, labT, fnvL_append]
theorem labs_small {xs : List S41} (h : labsB (xs.map toLab) = true) : Small xs ∧ xs.length ≤ 3 := by
  unfold labsB eachB at h
  simp only [Bool.and_eq_true, decide_eq_true_eq, List.length_map, Bool.not_eq_true'] at h
  obtain ⟨_, ⟨_, h3⟩, h4⟩ := h
  refine ⟨fun x hx => ?_, h3⟩
  rw [List.any_eq_false] at h4
  have := h4 (toLab x) (List.mem_map_of_mem hx)
  simp only [labB, nameB, valB, toLab, Bool.not_eq_true, Bool.not_eq_false', Bool.and_eq_true, decide_eq_true_eq] at this
  obtain ⟨⟨⟨_, _⟩, h8⟩, ⟨_, h9⟩⟩ := this
  exact ⟨of_decide_eq_true h8, of_decide_eq_true h9⟩
theorem fingerTells_pure (a0 : Int) (a1 : ByteArray) (l2 : List S41) (h0 : U64 a0) (h2 : ∀ x ∈ l2, x.f0.size ≤ maxLen ∧ x.f1.size ≤ maxLen) : foghornlaw11_FingerTells.f 2000 a0 a1 l2 = some true := by
  unfold foghornlaw11_FingerTells.f
  have e1 := mn_eq (l2.length : Int) 5
  have hs := cutB_size 300 a1
  rw [few11_f, Option.bind_some, if_pos (by omega), if_pos (by omega), Option.bind_some, take_mn 5 5 _ rfl]
  generalize cutB 300 a1 = s at *
  have hl : (l2.take 5).length ≤ 5 := List.length_take_le _ _
  have ho : labsOkB (l2.take 5) = true := by
    unfold labsOkB
    rw [List.all_eq_true]
    intro x hx
    have := h2 x (List.mem_of_mem_take hx)
    simp only [labOkB, Bool.and_eq_true, decide_eq_true_eq]
    exact this
  generalize l2.take 5 = xs at *
  have hR : label_Right.f xs = some (labsB (xs.map toLab)) := if_pos ho
  have hR2 : foghornref10_Right.f xs = some (labsB (xs.map toLab)) := if_pos ho
  have hU : U64 14695981039346656037 := by unfold U64; omega
  unfold finger_Of.f
  rw [hR, Option.bind_some]
  cases hb : labsB (xs.map toLab)
  · rw [if_neg (by simp), Option.bind_some, more11_f h0 (by omega), refMore_f _ _ _ (by omega) (by omega), Option.bind_some, Option.bind_some, if_pos rfl, hex11_f h0, refHex_f _ _ (by omega) h0, Option.bind_some, Option.bind_some, if_pos rfl, alive11_f, Option.bind_some]
    show foghornlaw11_FingerTells.j0 (1999 + 1) xs _ _ false = some true
    simp only [foghornlaw11_FingerTells.j0]
    rw [if_neg (by simp), hR2, hb, Option.bind_some, if_neg (by simp), if_pos trivial, ByteArray.toList_eq]
    rfl
  · obtain ⟨hsm, _⟩ := labs_small hb
    have q1 := of_l xs hl hsm xs.length 2000 0 14695981039346656037 (by omega) (by omega) hU
    have q2 := refOf_l xs hl hsm xs.length 1999 0 ⟨#[]⟩ (by omega) (by omega) (by show 0 ≤ _; omega)
    rw [List.drop_zero] at q1 q2
    have hsz : (hexT (fnvL 14695981039346656037 (labsT xs)).toNat).size = 16 := by
      generalize (fnvL 14695981039346656037 (labsT xs)).toNat = n
      rw [← len_data]
      show ((hexD 16 n).toArray).toList.length = 16
      rw [List.toList_toArray, hexD_len]
    rw [if_pos rfl, show (0 : Int) = ((0 : Nat) : Int) from rfl, q1, Option.bind_some, more11_f h0 (by omega), refMore_f _ _ _ (by omega) (by omega), Option.bind_some, Option.bind_some, if_pos rfl, hex11_f h0, refHex_f _ _ (by omega) h0, Option.bind_some, Option.bind_some, if_pos rfl, alive11_f, Option.bind_some]
    show foghornlaw11_FingerTells.j0 (1999 + 1) xs _ _ false = some true
    simp only [foghornlaw11_FingerTells.j0]
    unfold foghornref11_Of.f
    rw [if_neg (by simp), hR2, hb, Option.bind_some, if_pos rfl, if_pos trivial, show (0 : Int) = ((0 : Nat) : Int) from rfl, q2, Option.bind_some, if_pos (by simp [fnvL])]
    rw [hsz]
    rfl
theorem FingerTells_walk (a0 : Int) (a1 : ByteArray) (v2 : Value) (l2 : List S41) (w : World) (hG : GOK w) (h0 : (Lit.int .u64 a0).wf = true) (h1 : a1.size ≤ maxLen) (h2 : (∃ (A : Option Addr) (c : Nat), v2 = .slice A l2.length c ∧ l2.length ≤ c ∧ Kd.C k41 w A l2.length l2) ∧ ∀ x ∈ l2, x.f0.size ≤ maxLen ∧ x.f1.size ≤ maxLen) :
    Calls Tryd.prog 4 #[.int .u64 a0, .string a1, v2] w fun e w' => e = .returned (.bool true) ∧ Below w.heap.size w w' := by
  obtain ⟨⟨A2, c2, rfl, hc2, hr2⟩, hq⟩ := h2
  exact foghornlaw11_FingerTells.calls 2000 a0 a1 A2 c2 l2 true w hG hr2 hc2 (fingerTells_pure a0 a1 l2 (u64_of h0) hq)
end Go.Proofs.YtndgollcganhmaaDoorQ.P
/- What comes in is opened in the printer's words, kind by kind. No program in sight. -/
namespace Go.Proofs.YtndgollcganhmaaDoor
open Go.RowKit Go.ChangeShapes Go.WideShapes Go.ChangeAt Go.Proofs.YtndgollcganhmaaDoorW.PrintWords
/-- What is readable as a value of a type has a form. -/
def Opens (P : Program) (W : World) (t : TypeId) {α : Type} (d : Kd α) (Q : α → Prop) : Prop :=
  ∀ {H : Type} (enc : TypeId × Value → H) (base : Nat) (spare : Nat → Bool) (held : Bool) (fuel : Nat) (cs : List Value) (y : DataW H × List MemPlace), DataW.trod enc P W base spare held fuel t cs = some y → cs.length = d.sz → ∃ x, d.K W x cs ∧ Q x
def OpensL (P : Program) (W : World) (fs : List Field) (o : Nat) {α : Type} (d : Kd α) (Q : α → Prop) : Prop :=
  ∀ {H : Type} (enc : TypeId × Value → H) (base : Nat) (spare : Nat → Bool) (held : Bool) (cs : List Value), (∀ (j : Nat) (f : Field), fs[j]? = some f → ∃ fuel y, DataW.trod enc P W base spare held fuel f.type ((cs.drop (f.offset - o)).take (P.cellsOf f.type)) = some y) → cs.length = d.sz → ∃ x, d.K W x cs ∧ Q x
section
variable {P : Program} {W : World} {t e : TypeId} {α β : Type} {d : Kd α} {Q : α → Prop}
theorem opens_int {k : IntKind} (ht : P.underlying t = some (.int k)) : Opens P W t (Kd.int k) (fun n => (Lit.int k n).wf = true) := by
  intro H enc base spare held fuel cs y h _
  obtain ⟨n, rfl, _, hw⟩ := DataW.trod_int ht h
  exact ⟨n, rfl, hw⟩
theorem opens_bool (ht : P.underlying t = some .bool) : Opens P W t Kd.bool (fun _ => True) := by
  intro H enc base spare held fuel cs y h _
  obtain ⟨n, rfl, _⟩ := DataW.trod_bool ht h
  exact ⟨n, rfl, trivial⟩
theorem opens_string (ht : P.underlying t = some .string) : Opens P W t Kd.string (fun s => s.size ≤ maxLen) := by
  intro H enc base spare held fuel cs y h _
  obtain ⟨n, rfl, _, hw⟩ := DataW.trod_string ht h
  exact ⟨n, rfl, hw⟩
theorem opens_C (hc : P.cellsOf e = d.sz) (h0 : 0 < d.sz) (h : Opens P W e d Q) {H : Type} {enc : TypeId × Value → H} {base : Nat} {spare : Nat → Bool} {held : Bool} {p : List MemPlace} {dd : DataW H} (ht : P.underlying t = some (.slice e)) {v : Value} (ht2 : DataW.Trod enc P W base spare held t v dd p) (hv : ∃ a l c, v = .slice a l c) :
    ∃ (xs : List α) (A : Option Addr) (c : Nat), v = .slice A xs.length c ∧ xs.length ≤ c ∧ d.C W A xs.length xs ∧ ∀ x ∈ xs, Q x := by
  obtain ⟨n, cells, hS, hel⟩ := sl_of_trod ht hc h0 ht2 hv
  have hx : ∀ i, i < n → ∃ x, d.K W x ((cells.drop (i * d.sz)).take d.sz) ∧ Q x := by
    intro i hi
    obtain ⟨f, y, hy⟩ := hel i hi
    refine h enc base spare held f _ y hy ?_
    have hle : i * d.sz + d.sz ≤ n * d.sz := by rw [← Nat.succ_mul]; exact Nat.mul_le_mul_right _ hi
    rw [List.length_take, List.length_drop, hS.1]
    omega
  have hxs : ∀ m, m ≤ n → ∃ xs : List α, xs.length = m ∧ ∀ i x, xs[i]? = some x → d.K W x ((cells.drop (i * d.sz)).take d.sz) ∧ Q x := by
    intro m
    induction m with
    | zero => exact fun _ => ⟨[], rfl, fun i x hx => by simp at hx⟩
    | succ m ih =>
      intro hm
      obtain ⟨xs, hl, hq⟩ := ih (by omega)
      obtain ⟨x, hk, hqx⟩ := hx m (by omega)
      refine ⟨xs ++ [x], by simp [hl], fun i y hy => ?_⟩
      rcases Nat.lt_or_ge i xs.length with hi | hi
      · rw [List.getElem?_append_left hi] at hy
        exact hq i y hy
      · rw [List.getElem?_append_right hi] at hy
        obtain ⟨h1, h2⟩ := List.getElem?_eq_some_iff.1 hy
        have hi2 : i = m := by simp at h1; omega
        subst hi2
        simp at h2
        subst h2
        exact ⟨hk, hqx⟩
  obtain ⟨xs, hl, hq⟩ := hxs n (Nat.le_refl _)
  obtain ⟨a, c, hv2, hnc, hnm⟩ := hS.form
  subst hv2
  subst hl
  refine ⟨xs, a, c, rfl, hnc, ⟨rfl, by unfold maxLen at hnm; omega, fun hp => ?_⟩, fun x hx => ?_⟩
  · obtain ⟨b, o, rfl, _, hcell⟩ := hS.at hp
    refine ⟨_, rfl, fun j p hj => ⟨_, ?_, (hq j p hj).1, fun i u hu => ?_⟩⟩
    · exact d.K_len (hq j p hj).1
    · rw [List.getElem?_take] at hu
      split at hu
      · rw [List.getElem?_drop] at hu
        rw [add_off]
        exact hcell _ _ hu
      · cases hu
  · obtain ⟨i, hi, rfl⟩ := List.mem_iff_getElem.1 hx
    exact (hq i _ (List.getElem?_eq_getElem hi)).2
theorem opens_slice (ht : P.underlying t = some (.slice e)) (hc : P.cellsOf e = d.sz) (h0 : 0 < d.sz) (h : Opens P W e d Q) : Opens P W t (Kd.slice e d) (fun xs => ∀ x ∈ xs, Q x) := by
  intro H enc base spare held fuel cs y hy hl
  obtain ⟨u, rfl⟩ : ∃ u, cs = [u] := by
    match cs, hl with
    | [u], _ => exact ⟨u, rfl⟩
  obtain ⟨hv, h2⟩ := slice_of_trod ht hy
  obtain ⟨xs, A, c, rfl, h3, h4, h5⟩ := opens_C hc h0 h ht h2 hv
  exact ⟨xs, ⟨A, c, rfl, h3, h4⟩, h5⟩
theorem opensL_one {f : Field} (h : Opens P W f.type d Q) (hc : P.cellsOf f.type = d.sz) : OpensL P W [f] f.offset d Q := by
  intro H enc base spare held cs hf hl
  obtain ⟨fuel, y, hy⟩ := hf 0 f rfl
  rw [Nat.sub_self, List.drop_zero, hc, List.take_of_length_le (by omega)] at hy
  exact h enc base spare held fuel cs y hy hl
theorem opensL_cons {f : Field} {fs : List Field} {b : Kd β} {Qb : β → Prop} (h : Opens P W f.type d Q) (hc : P.cellsOf f.type = d.sz) (hs : OpensL P W fs (f.offset + d.sz) b Qb) (ho : (fs.all fun g => decide (f.offset + d.sz ≤ g.offset)) = true) :
    OpensL P W (f :: fs) f.offset (Kd.pair d b) (fun x => Q x.1 ∧ Qb x.2) := by
  intro H enc base spare held cs hf hl
  have hl' : cs.length = d.sz + b.sz := hl
  obtain ⟨fuel, y, hy⟩ := hf 0 f rfl
  rw [Nat.sub_self, List.drop_zero, hc] at hy
  obtain ⟨x, hk, hq⟩ := h enc base spare held fuel _ y hy (by rw [List.length_take]; omega)
  obtain ⟨z, hkz, hqz⟩ := hs enc base spare held (cs.drop d.sz) (fun j g hg => by
    obtain ⟨fuel, y, hy⟩ := hf (j + 1) g (by simpa using hg)
    have hog : f.offset + d.sz ≤ g.offset := by simpa using List.all_eq_true.1 ho g (List.mem_of_getElem? hg)
    refine ⟨fuel, y, ?_⟩
    rw [List.drop_drop, show d.sz + (g.offset - (f.offset + d.sz)) = g.offset - f.offset by omega]
    exact hy) (by rw [List.length_drop]; omega)
  exact ⟨(x, z), ⟨_, _, (List.take_append_drop d.sz cs).symm, hk, hkz⟩, hq, hqz⟩
theorem opens_struct {fs : Array Field} (ht : P.underlying t = some (.struct fs)) (h : OpensL P W fs.toList 0 d Q) : Opens P W t d Q := by
  intro H enc base spare held fuel cs y hy hl
  obtain ⟨xs, n, _, _, _, hlx, hx⟩ := DataW.trod_struct ht hy
  refine h enc base spare held cs (fun j f hf => ?_) hl
  have hf' : fs[j]? = some f := by simpa using hf
  have h1 := hx j f hf'
  have hj : j < xs.length := by rw [hlx]; exact (Array.getElem?_eq_some_iff.1 hf').1
  rw [List.getElem?_eq_getElem hj] at h1
  exact ⟨n, _, h1⟩
theorem opens_iso {f : β → α} {g : α → β} (hfg : ∀ x, f (g x) = x) (h : Opens P W t d Q) : Opens P W t (Kd.iso d f) (fun y => Q (f y)) := by
  intro H enc base spare held fuel cs y hy hl
  obtain ⟨x, hk, hq⟩ := h enc base spare held fuel cs y hy hl
  exact ⟨g x, (by show d.K W (f (g x)) cs; rw [hfg]; exact hk), (by show Q (f (g x)); rw [hfg]; exact hq)⟩
theorem Opens.imp {Q' : α → Prop} (h : Opens P W t d Q) (hq : ∀ x, Q x → Q' x) : Opens P W t d Q' := by
  intro H enc base spare held fuel cs y hy hl
  obtain ⟨x, hk, hx⟩ := h enc base spare held fuel cs y hy hl
  exact ⟨x, hk, hq x hx⟩
/-- An argument that is a slice. -/
theorem arg_slice (hc : P.cellsOf e = d.sz) (h0 : 0 < d.sz) (h : Opens P W e d Q) {H : Type} {enc : TypeId × Value → H} {r : Reach} {base bb : Nat} {spare : Nat → Bool} {held : Bool} {p : List MemPlace} {dd : DataW H} (ht : P.underlying t = some (.slice e)) {v : Value} (hv : Value.okWide P W r bb t v) (h2 : DataW.Trod enc P W base spare held t v dd p) :
    ∃ xs : List α, (∃ (A : Option Addr) (c : Nat), v = .slice A xs.length c ∧ xs.length ≤ c ∧ d.C W A xs.length xs) ∧ ∀ x ∈ xs, Q x := by
  obtain ⟨xs, A, c, h3, h4, h5, h6⟩ := opens_C hc h0 h ht h2 (okWide_slice ht hv)
  exact ⟨xs, ⟨A, c, h3, h4, h5⟩, h6⟩
/-- An argument that is a struct. -/
theorem arg_struct (h : Opens P W t d Q) {fs : Array Field} (hc : P.cellsOf t = d.sz) {H : Type} {enc : TypeId × Value → H} {r : Reach} {base bb : Nat} {spare : Nat → Bool} {held : Bool} {p : List MemPlace} {dd : DataW H} (ht : P.underlying t = some (.struct fs)) {v : Value} (hv : Value.okWide P W r bb t v) (h2 : DataW.Trod enc P W base spare held t v dd p) :
    ∃ x : α, (∃ cs : List Value, v = .agg cs.toArray ∧ d.K W x cs) ∧ Q x := by
  obtain ⟨cs, rfl, hsz⟩ := okWide_struct ht hv
  obtain ⟨fuel, hf⟩ := h2
  obtain ⟨x, hk, hq⟩ := h enc base spare held fuel cs.toList _ hf (by simpa [hc] using hsz)
  exact ⟨x, ⟨cs.toList, by simp, hk⟩, hq⟩
end
end Go.Proofs.YtndgollcganhmaaDoor
/- What comes in as labels and matchers is opened. -/
namespace Go.Proofs.YtndgollcganhmaaDoorQ.P
open Go.RowKit Go.ChangeShapes Go.WideShapes Go.ChangeAt Go.Proofs.YtndgollcganhmaaDoorW.PrintWords Go.Proofs.YtndgollcganhmaaDoor
theorem opensLab (W : World) : Opens Tryd.prog W 41 k41 (fun x => x.f0.size ≤ maxLen ∧ x.f1.size ≤ maxLen) :=
  opens_iso (g := fun x => ⟨x.1, x.2⟩) (fun _ => rfl) (opens_struct Tryd.underlying41 (opensL_cons (opens_string Tryd.underlying9) (by kernel_rfl) (opensL_one (opens_string Tryd.underlying9) (by kernel_rfl)) (by rfl)))
section
variable {W : World} {H : Type} {enc : TypeId × Value → H} {r : Reach} {base bb : Nat} {spare : Nat → Bool} {held : Bool} {p : List MemPlace} {dd : DataW H} {v : Value}
set_option maxRecDepth 100000 in
theorem argLabs (hv : Value.okWide Tryd.prog W r bb 29 v) (h2 : DataW.Trod enc Tryd.prog W base spare held 29 v dd p) :
    ∃ xs : List S41, (∃ (A : Option Addr) (c : Nat), v = .slice A xs.length c ∧ xs.length ≤ c ∧ Kd.C k41 W A xs.length xs) ∧ ∀ x ∈ xs, x.f0.size ≤ maxLen ∧ x.f1.size ≤ maxLen :=
  arg_slice (by kernel_rfl) (by decide) (opensLab W) Tryd.underlying29 hv h2
end
end Go.Proofs.YtndgollcganhmaaDoorQ.P
/- The statement 'FingerTells': for every input the law returns true, and each argument reads behind the call as it read before; the library's tables are tied to the program's text. No condition. -/
namespace Go.Proofs.YtndgollcganhmaaDoor.fingerTells
open Go.ChangeShapes Go.WideShapes Go.ChangeAt Go.WideMaps Go.WideElems Go.RowKit Go.Proofs.YtndgollcganhmaaDoorQ.P Go.Proofs.YtndgollcganhmaaDoorQ
open Go.ChangeMaps (open_string shut_string)
theorem own : ownKnob Tryd.prog.godebug = none := by kernel_rfl
theorem laidOut : laidOutB Tryd.prog = true := by kernel_rfl
def laidL : List (String × DataW Unit) := [("math/bits.deBruijn32tab", Rows.laid_math_bits_deBruijn32tab), ("math/bits.deBruijn64tab", Rows.laid_math_bits_deBruijn64tab), ("internal/strconv.uint64pow10", Rows.laid_internal_strconv_uint64pow10)]
/-- The door's own heap meets the condition: closed facts. -/
theorem door_met (os : Os) (args : Array Value) : laidMetH Tryd.prog laidL ((World.doorLaid Tryd.prog 400 os).forCall (fun _ _ => 0) ⟨#[], args, []⟩).memory :=
  laidMetH_of_parts3 (fuel := 8) (laidMet_of_run' 8 (by kernel_rfl) (by kernel_rfl)) (by kernel_rfl) (by kernel_rfl)
set_option maxRecDepth 100000 in
theorem gok_of {W : World} (h : laidMetH Tryd.prog laidL W) : GOK W := by
  rw [MakeChecks.laidMetH_plain _ _ _ (by kernel_rfl)] at h
  obtain ⟨ps, ⟨g0, t0, cs0, f0, p0, q0, hg0, ht0, hv0, hd0, ⟨g1, t1, cs1, f1, p1, q1, hg1, ht1, hv1, hd1, ⟨g2, t2, cs2, f2, p2, q2, hg2, ht2, hv2, hd2, _, _⟩, _⟩, _⟩, _, _⟩ := h
  have k1 : Lib.TabIs Tryd.prog W "math/bits.deBruijn64tab" .u8 tab_math_bits_deBruijn64tab := by
    obtain rfl := Option.some.inj ((show Tryd.prog.globalNamed "math/bits.deBruijn64tab" = some 3 by kernel_rfl).symm.trans hg1)
    obtain rfl := Option.some.inj ((show (Tryd.prog.globals[3]?).map (·.type) = some 86 by kernel_rfl).symm.trans ht1)
    unfold Lib.TabIs
    have hd' := Lib.cells_of_tab (zs := tab_math_bits_deBruijn64tab) (k := .u8) Tryd.underlying86 Tryd.underlying5 (by kernel_rfl) (by kernel_rfl) hd1
    rw [hv1, ← hd']
  have k2 : Lib.TabIs Tryd.prog W "internal/strconv.uint64pow10" .u64 tab_internal_strconv_uint64pow10 := by
    obtain rfl := Option.some.inj ((show Tryd.prog.globalNamed "internal/strconv.uint64pow10" = some 0 by kernel_rfl).symm.trans hg2)
    obtain rfl := Option.some.inj ((show (Tryd.prog.globals[0]?).map (·.type) = some 76 by kernel_rfl).symm.trans ht2)
    unfold Lib.TabIs
    have hd' := Lib.cells_of_tab (zs := tab_internal_strconv_uint64pow10) (k := .u64) Tryd.underlying76 Tryd.underlying22 (by kernel_rfl) (by kernel_rfl) hd2
    rw [hv2, ← hd']
  exact ⟨k1, k2, trivial⟩
set_option maxRecDepth 100000 in
theorem lifted (os : Os) (started : os.Started) (H : Type) (enc : TypeId × Value → H) :
    ReturnsInHanded {} Tryd.checked os 4 .any (fun w args => (Rows.fingerTellsSpec.pre enc Tryd.prog Tryd.f4 [] false w args ∧ laidMetH Tryd.prog laidL w) ∧ sizedMet enc Tryd.prog Tryd.f4 (OpenSpec.ofChange Rows.fingerTellsSpec) false w args) (Rows.fingerTellsSpec.post enc Tryd.prog Tryd.f4 false true false false) := by
  refine returnsInHanded_of_change_and (C := Tryd.checked) (X := fun w _ => laidMetH Tryd.prog laidL w) (fun _ _ _ hh h => h.of_heap hh) own started (by kernel_rfl) Tryd.func4
    (ChangeSpec.witness_shaped (enc := enc) (C := Tryd.checked) (os := os) (X := fun w _ => laidMetH Tryd.prog laidL w) false (World.doorLaid Tryd.prog 400 os) #[.int .u64 0, .string ByteArray.empty, .slice none 0 0] 8 rfl (World.shaped_of_RefB (by kernel_rfl) (by kernel_rfl)) (by kernel_rfl) (by kernel_rfl) (by kernel_rfl) (door_met os _)) ?_
  intro W base args ds gs before hval0 hW _ _ hL _
  have hG := gok_of hL
  have hval : ∀ (j : Nat) t v, Tryd.f4.params[j]? = some t → args[j]? = some v → Value.okWide Tryd.prog W .any base t v := hval0
  have hW' := hW
  obtain ⟨p, q, hA0, hV, rfl, hfz, hnd⟩ := hW
  have hA : DataW.TrodAll enc Tryd.prog W 0 (fun _ => true) true Tryd.f4.params.toList args.toList ds p := hA0
  rw [Tryd.params4] at hA hval
  obtain ⟨v0, vs0, d0, ds0, p0, q0, hargs, rfl, rfl, h0, r0⟩ := trodAll_cons hA
  obtain ⟨v1, vs1, d1, ds1, p1, q1, rfl, rfl, rfl, h1, r1⟩ := trodAll_cons r0
  obtain ⟨v2, vs2, d2, ds2, p2, q2, rfl, rfl, rfl, h2, r2⟩ := trodAll_cons r1
  obtain ⟨rfl, rfl, rfl⟩ := trodAll_nil r2
  obtain rfl : args = #[v0, v1, v2] := by cases args; simp_all
  obtain ⟨rfl, rfl⟩ := trodVars_none hV
  have lt0 : ∀ x ∈ p0, x.block < W.heap.size := by obtain ⟨m, hm⟩ := h0; exact DataW.trod_lt m _ _ _ hm
  have k0 := h0
  have lt1 : ∀ x ∈ p1, x.block < W.heap.size := by obtain ⟨m, hm⟩ := h1; exact DataW.trod_lt m _ _ _ hm
  have k1 := h1
  have lt2 : ∀ x ∈ p2, x.block < W.heap.size := by obtain ⟨m, hm⟩ := h2; exact DataW.trod_lt m _ _ _ hm
  have k2 := h2
  obtain ⟨a0, rfl, rfl, rfl, w0⟩ := open_int Tryd.underlying22 (hval 0 22 v0 rfl rfl) h0
  obtain ⟨a1, rfl, rfl, rfl, w1⟩ := open_string Tryd.underlying9 (hval 1 9 v1 rfl rfl) h1
  obtain ⟨a2, w2⟩ := argLabs (hval 2 29 v2 rfl rfl) h2
  clear hA0 hval0
  refine (FingerTells_walk a0 a1 v2 a2 W hG w0 w1 w2).mono fun e W' ⟨he, bel⟩ => ?_
  subst he
  exact ⟨_, rfl, _, _, _, [], _, [], hW', trodAll_mk1 (shut_bool Tryd.underlying4 _), (trodAll_cons_mk (Below.trod laidOut (by kernel_rfl) (of_decide_eq_true (by kernel_rfl)) k0 bel lt0) (trodAll_cons_mk (Below.trod laidOut (by kernel_rfl) (of_decide_eq_true (by kernel_rfl)) k1 bel lt1) (trodAll_cons_mk (Below.trod laidOut (by kernel_rfl) (of_decide_eq_true (by kernel_rfl)) k2 bel lt2) trodAll_mk0))), rfl, bel.frame _, fun h => by cases h⟩
theorem over : Rows.FingerTellsSaid :=
  OpenClaim.holds_of_wide 4 Tryd.f4 rfl rfl rfl rfl rfl rfl rfl ⟨rfl, rfl, rfl, rfl, rfl⟩ rfl rfl rfl rfl rfl (by kernel_rfl) Tryd.func4 (by kernel_rfl)
    (of_decide_eq_true (by kernel_rfl)) (by unfold Func.isWrapper; first | (rw [if_pos (by decide +kernel)]; kernel_rfl) | (rw [if_neg (by decide +kernel)]; exact ⟨rfl, rfl⟩))
    (fun os started H enc _ => lifted os started H enc)
end Go.Proofs.YtndgollcganhmaaDoor.fingerTells
namespace Go.Proofs.YtndgollcganhmaaDoor
/-- The statement: the card. -/
theorem fingerTells_holds : Rows.FingerTellsCardSaid :=
  Claim7.holds_tied_plain_at .later [] [.data, .data, .data] true (true, "dd56ed59051b171d7922f86ed464e7b7ccee2cec34adc29302111da835715aa7") false fingerTells.over (fun _ h => by cases h) (by kernel_rfl) (fun _ h => by cases h) fingerTells_row_tie rfl ⟨rfl, rfl⟩ (by kernel_rfl) rfl
    (fun f fn hf hfn => by
      obtain rfl : f = 4 := Option.some.inj ((show Tryd.prog.funcNamed "foghorn/foghornlaw11.FingerTells" = some 4 by kernel_rfl).symm.trans hf) |>.symm
      obtain rfl : fn = Tryd.f4 := (Option.some.inj (Tryd.func4.symm.trans hfn)).symm
      exact ⟨by kernel_rfl, fun j t ht => by
        rw [Tryd.params4] at ht
        have hm : t ∈ [22, 9, 29] := by simpa using Array.mem_of_getElem? ht
        have hall : ([22, 9, 29].all fun u => !Tryd.prog.wantsStandIn u) = true := by kernel_rfl
        exact (show Tryd.prog.wantsStandIn t = false by simpa using List.all_eq_true.1 hall t hm)⟩)
    (by kernel_rfl)
#print axioms fingerTells_holds
end Go.Proofs.YtndgollcganhmaaDoor
