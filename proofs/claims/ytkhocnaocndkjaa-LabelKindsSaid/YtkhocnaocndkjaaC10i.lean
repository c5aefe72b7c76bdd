/- Contracts of slices.IndexFunc, ContainsFunc at labels and matchers. -/
import Derived.Test.YtkhocnaocndkjaaC10
import Derived.Shelf.Abstract
set_option linter.unusedVariables false
set_option linter.unusedSimpArgs false
namespace Go.Proofs.Ytkhocnaocndkjaa
open Go.RowKit
attribute [local go_sem high] ext_size ext_cell ext_frozen alloc_cell alloc_frozen
/-- A function value is a predicate on these. -/
def PredL (f : FuncId) (caps : Array Value) (w : World) (p : Lab → Bool) (xs : List Lab) : Prop :=
  ∀ x ∈ xs, ∀ W, Below w.heap.size w W → Calls Try.prog f (#[labV x] ++ caps) W fun e W' => e = .returned (.bool (p x)) ∧ Below W.heap.size W W'
theorem indexFuncL (v : Value) (xs : List Lab) (f : FuncId) (caps : Array Value) (p : Lab → Bool) (w : World) (hS : SlAt w v 2 xs.length (labsC xs)) (hp : PredL f caps w p xs) (hf : Enters Try.prog f) :
    Calls Try.prog 89 #[v, .func (.func f) #[] caps] w fun e w' => e = .returned (.int .i64 (idxOf p xs)) ∧ Below w.heap.size w w' := by
  obtain ⟨a, c, rfl, hnc, hcm⟩ := hS.form
  have hm := hS.le
  have HS := Lib.hid hS
  have HP := Lib.hid hp
  clear hS hp
  unfold maxLen at hm
  go_enter Try.func89, Try.ntmps89
  go_wp2
  go_loopw [5, 8] (fun _ i wr => ∃ k : Nat, k ≤ xs.length ∧ i = .int .i64 k ∧ (∀ j (hj : j < xs.length), j < k → p xs[j] = false) ∧ Below w.heap.size w wr) (fun _ i _ => xs.length - (intOf i).toNat)
  case atStart => exact ⟨0, Nat.zero_le _, rfl, fun j _ hj => absurd hj (by omega), Below.refl _ _⟩
  case round =>
    obtain ⟨k, hk, rfl, hno, hbel⟩ := hrel
    have HN := Lib.hid hno
    clear hno
    obtain ⟨xr, rfl⟩ := ext_of hbel
    by_cases hlt : k < xs.length
    · obtain ⟨b, o, rfl, hbl, hcell⟩ := HS.out.at (by omega)
      have hg := labs_get xs k hlt
      have hck0 : w.cell? ⟨b, o + k * 2, none⟩ = some (.string xs[k].name) := by exact hcell _ _ hg.1
      have hck1 : w.cell? ⟨b, o + k * 2 + 1, none⟩ = some (.string xs[k].value) := by rw [Nat.add_assoc]; exact hcell _ _ hg.2
      clear hcell hg
      have hcall : Calls Try.prog f (#[Value.agg #[.string xs[k].name, .string xs[k].value]] ++ caps) (ext w xr) fun e W' => e = .returned (.bool (p xs[k])) ∧ Below (ext w xr).heap.size (ext w xr) W' := HP.out xs[k] (List.getElem_mem hlt) (ext w xr) hbel
      have he := hf (#[Value.agg #[.string xs[k].name, .string xs[k].value]] ++ caps) (ext w xr)
      cases hpx : p xs[k]
      all_goals
        rw [hpx] at hcall
        have HX := Lib.hid hpx
        have HC := Lib.hid hcall
        clear hpx hcall hbel
        go_wp2_with (refine Calls.mono HC.out ?_; rintro e w1 ⟨rfl, hb1⟩)
      · refine ⟨⟨k + 1, by omega, by go_num, fun j hj hjk => ?_, bel (ext_bel w xr) hb1⟩, by simp [intOf]; omega⟩
        rcases Nat.lt_succ_iff_lt_or_eq.1 hjk with h | rfl
        · exact HN.out j hj h
        · exact HX.out
      · go_ret
        exact ⟨ret_int (idxOf_found hlt HX.out fun j hj => HN.out j (by omega) hj).symm, bel (ext_bel w xr) hb1⟩
    · obtain rfl : k = xs.length := by omega
      go_wp2
      go_ret
      exact ⟨ret_int (idxOf_none fun j hj => HN.out j hj hj).symm, ext_bel w xr⟩
theorem containsFuncL (v : Value) (xs : List Lab) (f : FuncId) (caps : Array Value) (p : Lab → Bool) (w : World) (hS : SlAt w v 2 xs.length (labsC xs)) (hp : PredL f caps w p xs) (hf : Enters Try.prog f) :
    Calls Try.prog 81 #[v, .func (.func f) #[] caps] w fun e w' => e = .returned (.bool (xs.any p)) ∧ Below w.heap.size w w' := by
  have hi := Lib.hid (idxOf_any p xs)
  have HI := Lib.hid (indexFuncL v xs f caps p w hS hp hf)
  obtain ⟨a, c, rfl, hnc, hcm⟩ := hS.form
  clear hp hS
  go_enter Try.func81, Try.ntmps81
  go_wp2_with fail
  refine HI.out.mono ?_
  rintro e w1 ⟨rfl, hb1⟩
  go_wp2
  go_ret
  exact ⟨ret_bool hi.out, hb1⟩
/-- A function value is a predicate on these. -/
def PredM (f : FuncId) (caps : Array Value) (w : World) (p : Mat → Bool) (xs : List Mat) : Prop :=
  ∀ x ∈ xs, ∀ W, Below w.heap.size w W → Calls Try.prog f (#[matV x] ++ caps) W fun e W' => e = .returned (.bool (p x)) ∧ Below W.heap.size W W'
theorem indexFuncM (v : Value) (xs : List Mat) (f : FuncId) (caps : Array Value) (p : Mat → Bool) (w : World) (hS : SlAt w v 3 xs.length (matsC xs)) (hp : PredM f caps w p xs) (hf : Enters Try.prog f) :
    Calls Try.prog 87 #[v, .func (.func f) #[] caps] w fun e w' => e = .returned (.int .i64 (idxOf p xs)) ∧ Below w.heap.size w w' := by
  obtain ⟨a, c, rfl, hnc, hcm⟩ := hS.form
  have hm := hS.le
  have HS := Lib.hid hS
  have HP := Lib.hid hp
  clear hS hp
  unfold maxLen at hm
  go_enter Try.func87, Try.ntmps87
  go_wp2
  go_loopw [5, 8] (fun _ i wr => ∃ k : Nat, k ≤ xs.length ∧ i = .int .i64 k ∧ (∀ j (hj : j < xs.length), j < k → p xs[j] = false) ∧ Below w.heap.size w wr) (fun _ i _ => xs.length - (intOf i).toNat)
  case atStart => exact ⟨0, Nat.zero_le _, rfl, fun j _ hj => absurd hj (by omega), Below.refl _ _⟩
  case round =>
    obtain ⟨k, hk, rfl, hno, hbel⟩ := hrel
    have HN := Lib.hid hno
    clear hno
    obtain ⟨xr, rfl⟩ := ext_of hbel
    by_cases hlt : k < xs.length
    · obtain ⟨b, o, rfl, hbl, hcell⟩ := HS.out.at (by omega)
      have hg := mats_get xs k hlt
      have hck0 : w.cell? ⟨b, o + k * 3, none⟩ = some (.int .i64 xs[k].kind) := by exact hcell _ _ hg.1
      have hck1 : w.cell? ⟨b, o + k * 3 + 1, none⟩ = some (.string xs[k].name) := by rw [Nat.add_assoc]; exact hcell _ _ hg.2.1
      have hck2 : w.cell? ⟨b, o + k * 3 + 2, none⟩ = some (.string xs[k].value) := by rw [Nat.add_assoc]; exact hcell _ _ hg.2.2
      clear hcell hg
      have hcall : Calls Try.prog f (#[Value.agg #[.int .i64 xs[k].kind, .string xs[k].name, .string xs[k].value]] ++ caps) (ext w xr) fun e W' => e = .returned (.bool (p xs[k])) ∧ Below (ext w xr).heap.size (ext w xr) W' := HP.out xs[k] (List.getElem_mem hlt) (ext w xr) hbel
      have he := hf (#[Value.agg #[.int .i64 xs[k].kind, .string xs[k].name, .string xs[k].value]] ++ caps) (ext w xr)
      cases hpx : p xs[k]
      all_goals
        rw [hpx] at hcall
        have HX := Lib.hid hpx
        have HC := Lib.hid hcall
        clear hpx hcall hbel
        go_wp2_with (refine Calls.mono HC.out ?_; rintro e w1 ⟨rfl, hb1⟩)
      · refine ⟨⟨k + 1, by omega, by go_num, fun j hj hjk => ?_, bel (ext_bel w xr) hb1⟩, by simp [intOf]; omega⟩
        rcases Nat.lt_succ_iff_lt_or_eq.1 hjk with h | rfl
        · exact HN.out j hj h
        · exact HX.out
      · go_ret
        exact ⟨ret_int (idxOf_found hlt HX.out fun j hj => HN.out j (by omega) hj).symm, bel (ext_bel w xr) hb1⟩
    · obtain rfl : k = xs.length := by omega
      go_wp2
      go_ret
      exact ⟨ret_int (idxOf_none fun j hj => HN.out j hj hj).symm, ext_bel w xr⟩
theorem containsFuncM (v : Value) (xs : List Mat) (f : FuncId) (caps : Array Value) (p : Mat → Bool) (w : World) (hS : SlAt w v 3 xs.length (matsC xs)) (hp : PredM f caps w p xs) (hf : Enters Try.prog f) :
    Calls Try.prog 59 #[v, .func (.func f) #[] caps] w fun e w' => e = .returned (.bool (xs.any p)) ∧ Below w.heap.size w w' := by
  have hi := Lib.hid (idxOf_any p xs)
  have HI := Lib.hid (indexFuncM v xs f caps p w hS hp hf)
  obtain ⟨a, c, rfl, hnc, hcm⟩ := hS.form
  clear hp hS
  go_enter Try.func59, Try.ntmps59
  go_wp2_with fail
  refine HI.out.mono ?_
  rintro e w1 ⟨rfl, hb1⟩
  go_wp2
  go_ret
  exact ⟨ret_bool hi.out, hb1⟩
end Go.Proofs.Ytkhocnaocndkjaa
