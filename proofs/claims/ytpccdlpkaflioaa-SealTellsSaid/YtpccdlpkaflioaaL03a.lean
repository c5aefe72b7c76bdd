/- The walk of SealTells. -/
import Derived.Test.YtpccdlpkaflioaaL03
set_option linter.unusedVariables false
set_option linter.unusedSimpArgs false
namespace Go.Proofs.Ytpccdlpkaflioaa
open Go.RowKit
set_option maxHeartbeats 2000000 in
theorem SealTells_walk (a0 a1 : Int) (a2 a3 : ByteArray) (w : World) (h0 : (Lit.int .i64 a0).wf = true) (h1 : (Lit.int .i64 a1).wf = true) (h2 : a2.size ≤ maxLen) (h3 : a3.size ≤ maxLen) :
    Calls Try.prog 6 #[.int .i64 a0, .int .i64 a1, .string a2, .string a3] w fun e w' => e = .returned (.bool true) ∧ Below w.heap.size w w' := by
  obtain ⟨p, hp⟩ : ∃ p, p = a2.extract 0 130 := ⟨_, rfl⟩
  obtain ⟨t, ht⟩ : ∃ t, t = a3.extract 0 130 := ⟨_, rfl⟩
  have htm : t.size ≤ maxLen := by rw [ht]; exact ext_max _ _ h3
  have HP := Lib.hid hp
  have HT := Lib.hid ht
  clear hp ht
  have hopen : ∀ W, Calls Try.prog 23 #[.string t] W fun e w' => e = .returned (.tuple #[.int .i64 (openG t), .int .i64 (openN t), .string (openP t), .int .i64 (openE t)]) ∧ Below W.heap.size W w' := fun W => open_any t W htm
  have hropen : ∀ W, Calls Try.prog 24 #[.string t] W fun e w' => e = .returned (.tuple #[.int .i64 (openG t), .int .i64 (openN t), .string (openP t), .int .i64 (openE t)]) ∧ Below W.heap.size W w' := fun W => refOpen_any t W htm
  have HO := Lib.hid hopen
  have HR := Lib.hid hropen
  clear hopen hropen
  have hstamp := fun W => refStamp_any a0 a1 W
  have hseal := fun W => seal_any a0 a1 p W
  cases hst : stampB a0 a1
  · rw [hst] at hstamp
    rw [show sealE a0 a1 p = 1 by unfold sealE; rw [if_pos hst], show sealS a0 a1 p = ⟨#[]⟩ by unfold sealS; rw [if_neg (by simp [hst])]] at hseal
    have HST := Lib.hid hstamp
    have HSE := Lib.hid hseal
    clear hstamp hseal hst
    go_enter Try.func6, Try.ntmps6
    go_wp2_with (first
      | (go_at_call 21; first | (refine (few03_to a2 p _ h2 HP).mono ?_; rintro e w' ⟨rfl, rfl⟩) | (refine (few03_to a3 t _ h3 HT).mono ?_; rintro e w' ⟨rfl, rfl⟩))
      | (go_at_call 25; refine (alive03_any _).mono ?_; rintro e w1 ⟨rfl, hb1⟩)
      | (go_at_call 22; refine (HSE.out _).mono ?_; rintro e w2 ⟨rfl, hb2⟩)
      | (go_at_call 23; refine (HO.out _).mono ?_; rintro e w3 ⟨rfl, hb3⟩)
      | (go_at_call 24; refine (HR.out _).mono ?_; rintro e w4 ⟨rfl, hb4⟩)
      | (go_at_call 26; refine (HST.out _).mono ?_; rintro e w5 ⟨rfl, rfl⟩))
    go_ret
    exact ⟨rfl, bel (bel (bel hb2 hb3) hb4) hb1⟩
  · rw [hst] at hstamp
    by_cases hp : p.size ≤ 96
    · obtain ⟨S, hS⟩ : ∃ S, S = ByteArray.mk (sealL a0 a1 (bytesOf p)).toArray := ⟨_, rfl⟩
      rw [show sealE a0 a1 p = 0 by unfold sealE; rw [hst, if_neg (by simp), if_pos hp], show sealS a0 a1 p = S by unfold sealS; rw [if_pos ⟨hst, hp⟩, hS]] at hseal
      have HST := Lib.hid hstamp
      have HSE := Lib.hid hseal
      have HS := Lib.hid hS
      clear hstamp hseal hst hS
      go_enter Try.func6, Try.ntmps6
      go_wp2_with (first
        | (go_at_call 21; first | (refine (few03_to a2 p _ h2 HP).mono ?_; rintro e w' ⟨rfl, rfl⟩) | (refine (few03_to a3 t _ h3 HT).mono ?_; rintro e w' ⟨rfl, rfl⟩))
        | (go_at_call 25; refine (alive03_any _).mono ?_; rintro e w1 ⟨rfl, hb1⟩)
        | (go_at_call 22; refine (HSE.out _).mono ?_; rintro e w2 ⟨rfl, hb2⟩)
        | (go_at_call 23; refine (HO.out _).mono ?_; rintro e w3 ⟨rfl, hb3⟩)
        | (go_at_call 24; refine (HR.out _).mono ?_; rintro e w4 ⟨rfl, hb4⟩)
        | (go_at_call 26; refine (HST.out _).mono ?_; rintro e w5 ⟨rfl, rfl⟩)
        | (go_at_call 27; refine (refSeal_to _ _ _ S hp HS _).mono ?_; rintro e w6 ⟨rfl, hb6⟩))
      go_ret
      exact ⟨rfl, bel (bel (bel (bel hb2 hb3) hb4) hb1) hb6⟩
    · rw [show sealE a0 a1 p = 2 by unfold sealE; rw [hst, if_neg (by simp), if_neg hp], show sealS a0 a1 p = ⟨#[]⟩ by unfold sealS; rw [if_neg (by omega)]] at hseal
      have HST := Lib.hid hstamp
      have HSE := Lib.hid hseal
      have hp' : 96 < p.size := by omega
      clear hstamp hseal hst hp
      go_enter Try.func6, Try.ntmps6
      go_wp2_with (first
        | (go_at_call 21; first | (refine (few03_to a2 p _ h2 HP).mono ?_; rintro e w' ⟨rfl, rfl⟩) | (refine (few03_to a3 t _ h3 HT).mono ?_; rintro e w' ⟨rfl, rfl⟩))
        | (go_at_call 25; refine (alive03_any _).mono ?_; rintro e w1 ⟨rfl, hb1⟩)
        | (go_at_call 22; refine (HSE.out _).mono ?_; rintro e w2 ⟨rfl, hb2⟩)
        | (go_at_call 23; refine (HO.out _).mono ?_; rintro e w3 ⟨rfl, hb3⟩)
        | (go_at_call 24; refine (HR.out _).mono ?_; rintro e w4 ⟨rfl, hb4⟩)
        | (go_at_call 26; refine (HST.out _).mono ?_; rintro e w5 ⟨rfl, rfl⟩))
      go_ret
      exact ⟨rfl, bel (bel (bel hb2 hb3) hb4) hb1⟩
end Go.Proofs.Ytpccdlpkaflioaa
