/- LabelKinds: its closure, and the plain facts. -/
import Derived.Test.YtkhocnaocndkjaaL10a
set_option linter.unusedVariables false
set_option linter.unusedSimpArgs false
namespace Go.Proofs.Ytkhocnaocndkjaa
open Go.RowKit
attribute [local go_sem high] ext_size ext_cell ext_frozen alloc_cell alloc_frozen
def allR (ms : List Mat) (xs : List Lab) : Bool := decide (allE ms xs = 0) && allB ms xs
theorem one_any (k : Int) (n v : ByteArray) (g5 g4 : Nat) (u : Value) (xs : List Lab) (w : World) (hS : SlAt w u 2 xs.length (labsC xs)) (hl : LabsOk xs) (hn : n.size ≤ maxLen) (hv : v.size ≤ maxLen)
    (h5 : w.cell? ⟨g5, 0, none⟩ = some (.string n)) (h4 : w.cell? ⟨g4, 0, none⟩ = some u) (z5 : g5 < w.heap.size) (z4 : g4 < w.heap.size) :
    Calls Try.prog 32 #[.int .i64 k, .string v, .pointer (some ⟨g5, 0, none⟩), .pointer (some ⟨g4, 0, none⟩)] w fun e w' => e = .returned (.tuple #[.bool (allR [⟨k, n, v⟩] xs), .int .i64 (allE [⟨k, n, v⟩] xs)]) ∧ Below w.heap.size w w' := by
  obtain ⟨a, c, rfl, hnc, hcm⟩ := hS.form
  have HS := Lib.hid hS
  have HA := Lib.hid fun z W (h : SlAt W z 3 1 (matsC [⟨k, n, v⟩])) (h' : SlAt W (Value.slice a xs.length c) 2 xs.length (labsC xs)) => labAll_any z _ [⟨k, n, v⟩] xs W h h' (fun x hx => by rw [List.mem_singleton.1 hx]; exact ⟨hn, hv⟩) hl
  unfold allR
  obtain ⟨E, hE⟩ : ∃ E, E = allE [⟨k, n, v⟩] xs := ⟨_, rfl⟩
  obtain ⟨B, hB⟩ : ∃ B, B = (decide (allE [⟨k, n, v⟩] xs = 0) && allB [⟨k, n, v⟩] xs) := ⟨_, rfl⟩
  rw [← hB, ← hE]
  rw [← hB, ← hE] at HA
  clear hS hE hB
  go_enter Try.func32, Try.ntmps32
  go_wp2_with fail
  refine (HA.out _ _ (slat_lit w rfl rfl rfl (by decide)) (HS.out.stay (by repeat (first | exact Below.refl _ _ | apply bal | apply bext | apply bdr | apply bdrN | (refine bst ?_ _ (by simp only [ext_size, size_alloc, size_set]; omega)))))).mono ?_
  rintro e w1 ⟨rfl, hb1⟩
  obtain ⟨x1, rfl⟩ := ext_of hb1
  clear hb1
  go_wp2_with fail
  go_ret2
  exact ⟨rfl, (by repeat (first | exact Below.refl _ _ | apply bal | apply bext | apply bdr | apply bdrN | (refine bst ?_ _ (by simp only [ext_size, size_alloc, size_set]; omega))))⟩
theorem allE_one (m : Mat) (xs : List Lab) : allE [m] xs = if labsB xs = true ∧ matB m = true then 0 else 1 := by
  unfold allE
  simp only [List.length_singleton, List.any_cons, List.any_nil, Bool.or_false]
  cases labsB xs <;> cases matB m <;> simp
theorem allB_one (m : Mat) (xs : List Lab) : allB [m] xs = matchB m xs := by
  unfold allB
  simp
theorem match_not (n v : ByteArray) (xs : List Lab) : matchB ⟨1, n, v⟩ xs = !matchB ⟨0, n, v⟩ xs := by
  unfold matchB
  rw [show isOf ⟨1, n, v⟩ = isOf ⟨0, n, v⟩ from rfl]
  cases xs.find? (isOf ⟨0, n, v⟩) <;> simp [ofB]
theorem match_begins (n v : ByteArray) (xs : List Lab) (h : matchB ⟨0, n, v⟩ xs = true) : matchB ⟨2, n, v⟩ xs = true := by
  unfold matchB at *
  rw [show isOf ⟨2, n, v⟩ = isOf ⟨0, n, v⟩ from rfl]
  cases hf : xs.find? (isOf ⟨0, n, v⟩) with
  | none => rw [hf] at h; simp at h
  | some x =>
    rw [hf] at h
    simp only [ofB, if_true] at h
    have e := bytes_of_eq h
    show ofB 2 x.value v = true
    unfold ofB
    rw [if_neg (by omega), if_neg (by omega), if_pos rfl, e]
    exact List.isPrefixOf_iff_prefix.2 (List.prefix_refl _)
theorem match_has (n v u : ByteArray) (xs : List Lab) (h : matchB ⟨2, n, v⟩ xs = true) : matchB ⟨3, n, u⟩ xs = true := by
  unfold matchB at *
  rw [show isOf ⟨3, n, u⟩ = isOf ⟨2, n, v⟩ from rfl]
  cases hf : xs.find? (isOf ⟨2, n, v⟩) with
  | none => rw [hf] at h; simp at h
  | some x => simp [ofB]
theorem matB_kinds (n v : ByteArray) : matB ⟨0, n, v⟩ = (nameB n && valB v) ∧ matB ⟨1, n, v⟩ = (nameB n && valB v) ∧ matB ⟨2, n, v⟩ = (nameB n && valB v) ∧ matB ⟨3, n, ⟨#[]⟩⟩ = nameB n := by
  unfold matB
  refine ⟨by simp, by simp, by simp, ?_⟩
  simp [valB, show ByteArray.size ⟨#[]⟩ = 0 from rfl]
theorem allB_take (ms : List Mat) (xs : List Lab) (k : Nat) (h : k < ms.length) : allB (ms.take (k + 1)) xs = (allB (ms.take k) xs && matchB ms[k] xs) := by
  unfold allB
  rw [List.take_succ_eq_append_getElem h, List.any_append]
  simp
theorem allE_take {ms : List Mat} {xs : List Lab} (h : allE ms xs = 0) (k : Nat) (hk : k < ms.length) : allE (ms.take k) xs = 0 ∧ allE [ms[k]] xs = 0 := by
  unfold allE at h
  split at h
  · rename_i hh
    obtain ⟨h1, h2, h3⟩ := hh
    have h4 := List.any_eq_false.1 h3
    constructor
    · unfold allE
      rw [if_pos ⟨h1, by rw [List.length_take]; omega, List.any_eq_false.2 fun x hx => h4 x (List.mem_of_mem_take hx)⟩]
    · rw [allE_one, if_pos ⟨h1, by simpa using h4 _ (List.getElem_mem hk)⟩]
  · omega
end Go.Proofs.Ytkhocnaocndkjaa
