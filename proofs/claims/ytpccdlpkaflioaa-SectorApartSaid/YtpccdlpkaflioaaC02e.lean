/- Contracts of foghornref02 on disks: Has, Right, Same. -/
import Derived.Test.YtpccdlpkaflioaaC02c
set_option linter.unusedVariables false
set_option linter.unusedSimpArgs false
namespace Go.Proofs.Ytpccdlpkaflioaa
open Go.RowKit
def hasD (xs : List ByteArray) (i : Int) : Bool := decide (0 ≤ i) && decide (i < xs.length)
theorem refHas_any (v : Value) (xs : List ByteArray) (i : Int) (w : World) (hS : SlAt w v 1 xs.length (strs xs)) :
    Calls Try.prog 39 #[.agg #[v], .int .i64 i] w fun e w' => e = .returned (.bool (hasD xs i)) ∧ Below w.heap.size w w' := by
  obtain ⟨a, c, rfl, hnc, hcm⟩ := hS.form
  go_enter Try.func39, Try.ntmps39
  go_wp2
  all_goals
    go_ret
    refine ⟨ret_bool (by unfold hasD; first | rfl | (simp [*]; done) | (simp [*]; intros; omega)), ?_⟩
    exact bal (Below.refl _ _) _
theorem rightD_bad {xs : List ByteArray} {k : Nat} (hk : k < xs.length) (h : badSize xs[k] = true) : rightD xs = false := by
  have : xs.any badSize = true := List.any_eq_true.2 ⟨xs[k], List.getElem_mem hk, h⟩
  unfold rightD
  rw [this]
  simp
theorem rightD_all {xs : List ByteArray} (h : ∀ j (hj : j < xs.length), badSize xs[j] = false) : rightD xs = (decide (10 ≤ xs.length) && decide (xs.length ≤ 130)) := by
  have : xs.any badSize = false := by
    cases e : xs.any badSize
    · rfl
    · obtain ⟨x, hx, hb⟩ := List.any_eq_true.1 e
      obtain ⟨j, hj, rfl⟩ := List.mem_iff_getElem.1 hx
      rw [h j hj] at hb
      exact hb.symm
  unfold rightD
  rw [this]
  simp
theorem refRight_any (v : Value) (xs : List ByteArray) (w : World) (hS : SlAt w v 1 xs.length (strs xs)) :
    Calls Try.prog 35 #[.agg #[v]] w fun e w' => e = .returned (.bool (rightD xs)) ∧ Below w.heap.size w w' := by
  obtain ⟨a, c, rfl, hnc, hcm⟩ := hS.form
  have hm := hS.le
  unfold maxLen at hm
  have HS := Lib.hid hS
  have K := Lib.hid (blk_new w (.cells #[.slice a xs.length c] 45 (0, 0)))
  go_enter Try.func35, Try.ntmps35
  go_wp2
  go_loopw [4, 8] (fun _ i wr => ∃ k : Nat, k ≤ xs.length ∧ i = .int .i64 k ∧ (∀ j (hj : j < xs.length), j < k → badSize xs[j] = false) ∧ wr = w.alloc (.cells #[.slice a xs.length c] 45)) (fun _ i _ => xs.length - (intOf i).toNat)
  case atStart => exact ⟨0, Nat.zero_le _, rfl, fun j _ hj => absurd hj (by omega), rfl⟩
  case round =>
    obtain ⟨k, hk, rfl, hno, rfl⟩ := hrel
    have HN := Lib.hid hno
    clear hno
    by_cases hlt : k < xs.length
    · obtain ⟨b, o, rfl, hbl, hcell⟩ := (HS.out.alloc (.cells #[.slice a xs.length c] 45)).at (by omega)
      have hck := hcell k _ (strs_get xs k hlt)
      clear hcell
      cases hpx : badSize xs[k]
      all_goals
        have HX := Lib.hid hpx
        unfold badSize at hpx
        go_wp2
      · refine ⟨⟨k + 1, by omega, by go_num, fun j hj hjk => ?_, trivial⟩, by simp [intOf]; omega⟩
        rcases Nat.lt_succ_iff_lt_or_eq.1 hjk with h | rfl
        · exact HN.out j hj h
        · exact HX.out
      · go_ret
        exact ⟨ret_bool (rightD_bad hlt HX.out).symm, bal (Below.refl _ _) _⟩
    · obtain rfl : k = xs.length := by omega
      have hr := Lib.hid (rightD_all (fun j hj => HN.out j hj hj))
      go_wp2
      all_goals
        go_ret
        refine ⟨ret_bool ?_, bal (Below.refl _ _) _⟩
        rw [hr.out]
        first
          | rfl
          | (rw [Bool.eq_iff_iff]; simp; omega)
          | (simp [*]; done)
end Go.Proofs.Ytpccdlpkaflioaa
