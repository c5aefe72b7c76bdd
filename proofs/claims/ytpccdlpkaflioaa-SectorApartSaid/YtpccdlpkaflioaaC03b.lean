/- Contracts of seal.Open. -/
import Derived.Test.YtpccdlpkaflioaaC03
import Derived.Test.YtpccdlpkaflioaaL01
set_option linter.unusedVariables false
set_option linter.unusedSimpArgs false
namespace Go.Proofs.Ytpccdlpkaflioaa
open Go.RowKit
theorem at8_get (x : ByteArray) (i : Nat) (h : i < x.size) : at8 x i = ((x[i]'h).toNat : Int) := by
  unfold at8
  rw [List.getD_eq_getElem?_getD, List.getElem?_eq_getElem (by rw [len_data]; exact h)]
  rfl
def OpenPost (x : ByteArray) (w : World) (e : Ending) (w' : World) : Prop := e = .returned (.tuple #[.int .i64 (openG x), .int .i64 (openN x), .string (openP x), .int .i64 (openE x)]) ∧ Below w.heap.size w w'
theorem openPost_bad {x : ByteArray} {w w' : World} {k : Int} (hk : openE x = k) (h0 : k ≠ 0) (hb : Below w.heap.size w w') : OpenPost x w (.returned (.tuple #[.int .i64 0, .int .i64 0, .string ⟨#[]⟩, .int .i64 k])) w' := by
  subst hk
  refine ⟨?_, hb⟩
  unfold openG openN openP
  rw [if_neg h0, if_neg h0, if_neg h0]
set_option maxHeartbeats 2000000 in
set_option maxRecDepth 100000 in
theorem open_any (x : ByteArray) (w : World) (hmax : x.size ≤ maxLen) : Calls Try.prog 23 #[.string x] w (OpenPost x w) := by
  by_cases h128 : x.size = 128
  case neg =>
    have he : openE x = 2 := by unfold openE; rw [if_pos h128]
    have hn : ((x.size : Int) != 128) = true := by simp; omega
    have HE := Lib.hid he
    clear he h128
    go_enter Try.func23, Try.ntmps23
    go_wp2
    (try simp only [Exit.inBlock, Exit.then]); refine bodyPost_ret (results_tmp4 rfl _ _ _) rfl ?_
    exact openPost_bad HE.out (by decide) (Below.refl _ _)
  cases h1 : openA x
  · have he : openE x = 6 := by unfold openE; rw [if_neg (by simp [h128]), if_pos h1]
    have HE := Lib.hid he
    clear he
    unfold openA at h1
    go_enter Try.func23, Try.ntmps23
    go_wp2
    go_region
    go_wp2
    (try simp only [Exit.inBlock, Exit.then]); refine bodyPost_ret (results_tmp4 rfl _ _ _) rfl ?_
    exact openPost_bad HE.out (by decide) ((Below.refl _ _).drew)
  have hmx : (x.extract 0 99).size ≤ maxLen := ext_max x 99 hmax
  cases h2 : openB x
  · have he : openE x = 7 := by unfold openE; rw [if_neg (by simp [h128]), if_neg (by simp [h1]), if_pos h2]
    have HE := Lib.hid he
    clear he
    unfold openA at h1
    unfold openB at h2
    go_enter Try.func23, Try.ntmps23
    go_wp2
    go_region
    go_wp2
    go_region_law (first
      | (go_simp; go_at_call 15; refine (sum_any _ _ hmx).mono ?_; rintro e w5 ⟨rfl, hb5⟩)
      | (go_simp; go_at_call 19; refine (four_any _ _).mono ?_; rintro e w6 ⟨rfl, hb6⟩))
    go_wp2
    (try simp only [Exit.inBlock, Exit.then]); refine bodyPost_ret (results_tmp4 rfl _ _ _) rfl ?_
    exact openPost_bad HE.out (by decide) (bel (bel (Below.refl _ _).drew.drew hb5) hb6)
  have b0 := (at8_get x 0 (by omega)).symm
  have b1 := (at8_get x 1 (by omega)).symm
  have b2 := (at8_get x 2 (by omega)).symm
  have r0 := at8_range x 0
  have r1 := at8_range x 1
  have r2 := at8_range x 2
  have q0 : IntKind.i64.wrap (at8 x 0) = at8 x 0 := by rw [IntKind.wrap_i64]; omega
  have q1 : IntKind.i64.wrap (at8 x 1) = at8 x 1 := by rw [IntKind.wrap_i64]; omega
  have q2 : IntKind.i64.wrap (at8 x 2) = at8 x 2 := by rw [IntKind.wrap_i64]; omega
  obtain ⟨r20, r21⟩ := r2
  by_cases hn : 96 < at8 x 2
  · have he : openE x = 1 := by unfold openE; rw [if_neg (by simp [h128]), if_neg (by simp [h1]), if_neg (by simp [h2]), if_pos hn]
    have HE := Lib.hid he
    clear he
    unfold openA at h1
    unfold openB at h2
    go_enter Try.func23, Try.ntmps23
    go_wp2
    go_region
    go_wp2
    go_region_law (first
      | (go_simp; go_at_call 15; refine (sum_any _ _ hmx).mono ?_; rintro e w5 ⟨rfl, hb5⟩)
      | (go_simp; go_at_call 19; refine (four_any _ _).mono ?_; rintro e w6 ⟨rfl, hb6⟩))
    go_wp2
    go_quiet (fail)
    go_wp2
    (try simp only [Exit.inBlock, Exit.then]); refine bodyPost_ret (results_tmp4 rfl _ _ _) rfl ?_
    refine openPost_bad HE.out (by decide) ?_
    have hbb := bel (bel (Below.refl _ _).drew.drew hb5) hb6
    exact hbb.trans ⟨rfl, rfl, rfl, Nat.le_refl _, fun _ _ => rfl⟩
  have hn3 : 3 + at8 x 2 ≤ 128 := by omega
  have hn4 : 0 ≤ 3 + at8 x 2 := by omega
  have hsl : ∀ W, (Instr.slice 9 (.string x) (some (.int .i64 3)) (some (.int .i64 (3 + at8 x 2))) none).run Try.prog W = .ok (.string (partP x)) W := fun W =>
    run_slice_string W 9 x .i64 .i64 3 (3 + at8 x 2) Try.underlying9 (by omega) (by omega) (by omega)
  have he : openE x = if sealE (at8 x 0) (at8 x 1) (partP x) = 0 ∧ sealS (at8 x 0) (at8 x 1) (partP x) = x then 0 else 1 := by
    unfold openE
    rw [if_neg (by simp [h128]), if_neg (by simp [h1]), if_neg (by simp [h2]), if_neg hn]
  have hseal := fun W => seal_any (at8 x 0) (at8 x 1) (partP x) W
  obtain ⟨E, hE⟩ : ∃ E, E = sealE (at8 x 0) (at8 x 1) (partP x) := ⟨_, rfl⟩
  obtain ⟨S, hS⟩ : ∃ S, S = sealS (at8 x 0) (at8 x 1) (partP x) := ⟨_, rfl⟩
  rw [← hE, ← hS] at hseal he
  have HS := Lib.hid hseal
  clear hseal hE hS
  have hfin : ∀ w', Below w.heap.size w w' → if E = 0 ∧ S = x then OpenPost x w (.returned (.tuple #[.int .i64 (at8 x 0), .int .i64 (at8 x 1), .string (partP x), .int .i64 0])) w' else OpenPost x w (.returned (.tuple #[.int .i64 0, .int .i64 0, .string ⟨#[]⟩, .int .i64 1])) w' := by
    intro w' hb
    by_cases hc : E = 0 ∧ S = x
    · rw [if_pos hc] at he ⊢
      refine ⟨?_, hb⟩
      unfold openG openN openP
      rw [if_pos he, if_pos he, if_pos he, he]
    · rw [if_neg hc] at he ⊢
      exact openPost_bad he (by decide) hb
  have HF := Lib.hid hfin
  clear he hfin
  unfold openA at h1
  unfold openB at h2
  by_cases hE0 : E = 0
  · subst hE0
    cases ht : (S.toList == x.toList)
    all_goals
      go_enter Try.func23, Try.ntmps23
      go_wp2
      go_region
      go_wp2
      go_region_law (first
        | (go_simp; go_at_call 15; refine (sum_any _ _ hmx).mono ?_; rintro e w5 ⟨rfl, hb5⟩)
        | (go_simp; go_at_call 19; refine (four_any _ _).mono ?_; rintro e w6 ⟨rfl, hb6⟩))
      go_wp2
      go_quiet (fail)
      go_wp2_with (go_at_call 22; refine (HS.out _).mono ?_; rintro e w7 ⟨rfl, hb7⟩)
      (try simp only [Exit.inBlock, Exit.then]); refine bodyPost_ret (results_tmp4 rfl _ _ _) rfl ?_
      have hbb := HF.out w7 (bel (bdn (bel (bel (Below.refl _ _).drew.drew hb5) hb6) _) hb7)
    · rw [if_neg (fun hc => by rw [hc.2] at ht; simp at ht)] at hbb
      exact hbb
    · rw [if_pos ⟨by trivial, bytes_of_eq ht⟩] at hbb
      exact hbb
  · have hne : (E != 0) = true := by simpa using hE0
    go_enter Try.func23, Try.ntmps23
    go_wp2
    go_region
    go_wp2
    go_region_law (first
      | (go_simp; go_at_call 15; refine (sum_any _ _ hmx).mono ?_; rintro e w5 ⟨rfl, hb5⟩)
      | (go_simp; go_at_call 19; refine (four_any _ _).mono ?_; rintro e w6 ⟨rfl, hb6⟩))
    go_wp2
    go_quiet (fail)
    go_wp2_with (go_at_call 22; refine (HS.out _).mono ?_; rintro e w7 ⟨rfl, hb7⟩)
    (try simp only [Exit.inBlock, Exit.then]); refine bodyPost_ret (results_tmp4 rfl _ _ _) rfl ?_
    have hbb := HF.out w7 (bel (bdn (bel (bel (Below.refl _ _).drew.drew hb5) hb6) _) hb7)
    rw [if_neg (fun hc => hE0 hc.1)] at hbb
    exact hbb
end Go.Proofs.Ytpccdlpkaflioaa
