/- The walks of the statements of layer 1. -/
import Derived.Test.YtpccdlpkaflioaaC01
set_option linter.unusedVariables false
set_option linter.unusedSimpArgs false
namespace Go.Proofs.Ytpccdlpkaflioaa
open Go.RowKit
theorem ext_max (s : ByteArray) (n : Nat) (hs : s.size ≤ maxLen) : (s.extract 0 n).size ≤ maxLen := by
  rw [ByteArray.size_extract]
  omega

theorem CrcTells_walk (a0 : ByteArray) (a1 : Int) (w : World) (h0 : a0.size ≤ maxLen) (h1 : (Lit.int .i64 a1).wf = true) :
    Calls Try.prog 4 #[.string a0, .int .i64 a1] w fun e w' => e = .returned (.bool true) ∧ Below w.heap.size w w' := by
  have hs := ext_max a0 300 h0
  go_enter Try.func4, Try.ntmps4
  go_wp2_with (first
    | (go_at_call 13; refine (few01_any _ _ h0).mono ?_; rintro e w' ⟨rfl, rfl⟩)
    | (go_at_call 14; refine (alive01_any _).mono ?_; rintro e w1 ⟨rfl, hb1⟩)
    | (go_at_call 15; refine (sum_any _ _ hs).mono ?_; rintro e w2 ⟨rfl, hb2⟩)
    | (go_at_call 16; refine (refsum_any _ _ hs).mono ?_; rintro e w' ⟨rfl, rfl⟩)
    | (go_at_call 17; refine (more_any _ _ _ hs).mono ?_; rintro e w3 ⟨rfl, hb3⟩)
    | (go_at_call 18; refine (refmore_any _ _ _ hs).mono ?_; rintro e w' ⟨rfl, rfl⟩)
    | (go_at_call 19; refine (four_any _ _).mono ?_; rintro e w4 ⟨rfl, hb4⟩)
    | (go_at_call 20; refine (reffour_any _ _).mono ?_; rintro e w5 ⟨rfl, hb5⟩))
  go_ret
  exact ⟨rfl, bel (bel (bel (bel hb1 hb2) hb3) hb4) hb5⟩
theorem crc_ret (s : Int) (h : 0 ≤ s ∧ s < 4294967296) : crcMore s [] = s := by
  unfold crcMore cmore
  simp only [List.foldl_nil]
  omega
theorem crcFour_inj (s t : Int) (hs : 0 ≤ s ∧ s < 4294967296) (ht : 0 ≤ t ∧ t < 4294967296) (h : crcFour s = crcFour t) : s = t := by
  unfold crcFour at h
  simp only [List.cons.injEq, and_true] at h
  obtain ⟨h1, h2, h3, h4⟩ := h
  have u : ∀ a b : Int, UInt8.ofNat (a % 256).toNat = UInt8.ofNat (b % 256).toNat → a % 256 = b % 256 := fun a b e => by
    have := congrArg UInt8.toNat e
    simp only [UInt8.toNat_ofNat'] at this
    omega
  have e1 := u _ _ h1
  have e2 := u _ _ h2
  have e3 := u _ _ h3
  have e4 := u _ _ h4
  omega
theorem CrcJoins_walk (a0 a1 : ByteArray) (w : World) (h0 : a0.size ≤ maxLen) (h1 : a1.size ≤ maxLen) :
    Calls Try.prog 5 #[.string a0, .string a1] w fun e w' => e = .returned (.bool true) ∧ Below w.heap.size w w' := by
  have hs := ext_max a0 300 h0
  have ht := ext_max a1 300 h1
  go_enter Try.func5, Try.ntmps5
  go_wp2_with (go_at_call 13; refine (few01_any _ _ (by assumption)).mono ?_; rintro e w' ⟨rfl, rfl⟩)
  generalize hsd : a0.extract 0 300 = s at hs ⊢
  generalize htd : a1.extract 0 300 = t at ht ⊢
  have hst : (s ++ t).size ≤ maxLen := by
    rw [← hsd, ← htd]
    simp only [ByteArray.size_append, ByteArray.size_extract, maxLen]
    omega
  have hn : ¬ 9223372036854775807 < s.size + t.size := by
    rw [← hsd, ← htd]
    simp only [ByteArray.size_extract]
    omega
  clear hsd htd
  have es := crcMore_range 0 s.data.toList
  have et := crcMore_range 0 t.data.toList
  have ej := crcMore_join 0 s.data.toList t.data.toList
  have d1 : decide (crcMore 0 s.data.toList < 0) = false := by simp; omega
  have d2 : decide (4294967296 ≤ crcMore 0 s.data.toList) = false := by simp; omega
  have e0 := crc_ret _ es
  have e0' := crc_ret _ et
  have l4 : ∀ x, ((crcFour x).length : Int) = 4 := fun _ => rfl
  have d1' : decide (crcMore 0 t.data.toList < 0) = false := by simp; omega
  have d2' : decide (4294967296 ≤ crcMore 0 t.data.toList) = false := by simp; omega
  by_cases e : crcMore 0 s.data.toList = crcMore 0 t.data.toList
  · go_wp2_with (first
      | (go_at_call 14; refine (alive01_any _).mono ?_; rintro e w1 ⟨rfl, hb1⟩)
      | (go_at_call 15; refine (sum_any _ _ (by assumption)).mono ?_; rintro e w2 ⟨rfl, hb2⟩)
      | (go_at_call 19; refine (four_any _ _).mono ?_; rintro e w4 ⟨rfl, hb4⟩)
      | (go_at_call 17; refine (more_any _ _ _ (by first | assumption | decide)).mono ?_; rintro e w3 ⟨rfl, hb3⟩))
    go_ret
    exact ⟨rfl, by repeat (first | exact Below.refl _ _ | assumption | refine bel ?_ (by assumption))⟩
  · have e1 : (crcMore 0 s.data.toList == crcMore 0 t.data.toList) = false := by simpa using e
    have e2 : ¬ crcFour (crcMore 0 s.data.toList) = crcFour (crcMore 0 t.data.toList) := fun h => e (crcFour_inj _ _ es et h)
    have e3 : (crcFour (crcMore 0 s.data.toList) == crcFour (crcMore 0 t.data.toList)) = false := by simpa using e2
    clear e
    go_wp2_with (first
      | (go_at_call 14; refine (alive01_any _).mono ?_; rintro e w1 ⟨rfl, hb1⟩)
      | (go_at_call 15; refine (sum_any _ _ (by assumption)).mono ?_; rintro e w2 ⟨rfl, hb2⟩)
      | (go_at_call 19; refine (four_any _ _).mono ?_; rintro e w4 ⟨rfl, hb4⟩)
      | (go_at_call 17; refine (more_any _ _ _ (by first | assumption | decide)).mono ?_; rintro e w3 ⟨rfl, hb3⟩))
    go_ret
    exact ⟨rfl, by repeat (first | exact Below.refl _ _ | assumption | refine bel ?_ (by assumption))⟩
end Go.Proofs.Ytpccdlpkaflioaa
