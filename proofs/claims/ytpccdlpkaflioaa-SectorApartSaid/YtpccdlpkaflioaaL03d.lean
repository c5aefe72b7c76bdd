/- The walk of SealTorn. -/
import Derived.Test.YtpccdlpkaflioaaL03
import Derived.Test.YtpccdlpkaflioaaC03t
import Derived.Test.YtpccdlpkaflioaaC03w
import Derived.Test.YtpccdlpkaflioaaM06
set_option linter.unusedVariables false
set_option linter.unusedSimpArgs false
namespace Go.Proofs.Ytpccdlpkaflioaa
open Go.RowKit
theorem stN_stN (x : Int) : stN (stN x) = stN x := by
  have := stN_range x
  rw [show stN (stN x) = (stN x).tmod 65 + 65 - 65 by
    generalize stN x = y at this
    unfold stN
    have h1 : y.tmod 65 = y := by rw [Int.tmod_eq_emod_of_nonneg (by omega)]; omega
    rw [h1, Int.tmod_eq_emod_of_nonneg (by omega)]
    omega]
  rw [Int.tmod_eq_emod_of_nonneg (by omega)]
  omega
def kN (x : Int) : Int := (x.tmod 129 + 129).tmod 129
theorem kN_range (x : Int) : 0 ≤ kN x ∧ kN x ≤ 128 := by
  unfold kN
  have h1 := Int.tmod_lt_of_pos x (show (0 : Int) < 129 by omega)
  have h2 := Int.lt_tmod_of_pos x (show (0 : Int) < 129 by omega)
  rw [Int.tmod_eq_emod_of_nonneg (by omega)]
  omega
theorem kN_walk (x : Int) : (wrap64 (x.tmod 129 + 129)).tmod 129 = kN x := by
  have h1 := Int.tmod_lt_of_pos x (show (0 : Int) < 129 by omega)
  have h2 := Int.lt_tmod_of_pos x (show (0 : Int) < 129 by omega)
  have e : wrap64 (x.tmod 129 + 129) = x.tmod 129 + 129 := by unfold wrap64; omega
  rw [e]
  rfl
/-- Torn of two whole sectors. -/
theorem torn_here (x t y : ByteArray) (k : Int) (w : World) (hx : x.size = 128) (ht : t.size = 128) (h0 : 0 ≤ k) (h1 : k ≤ 128) (hy : y = over x t k.toNat) :
    Calls Try.prog 43 #[.string x, .string t, .int .i64 k] w fun e w' => e = .returned (.tuple #[.string y, .int .i64 0]) ∧ Below w.heap.size w w' := by
  rw [hy]
  exact torn_ok x t k w hx (by unfold tornE; rw [if_neg (by omega), if_neg (by omega)]) ht h0 h1
set_option maxHeartbeats 4000000 in
set_option maxRecDepth 100000 in
theorem torn_core (a0 a1 a2 : Int) (a3 a4 a5 : ByteArray) (a6 : Int) (w : World) (h0 : (Lit.int .i64 a0).wf = true) (h1 : (Lit.int .i64 a1).wf = true) (h2 : (Lit.int .i64 a2).wf = true) (h3 : a3.size ≤ maxLen) (h4 : a4.size ≤ maxLen) (h5 : a5.size ≤ maxLen) (h6 : (Lit.int .i64 a6).wf = true)
    (g h n k : Int) (S T X t u : ByteArray) (g1 n1 F1 g2 n2 F2 : Int) (p1 p2 : ByteArray)
    (HG : Hid (stG a0 = g)) (HH : Hid (stG a1 = h)) (HN : Hid (stN a2 = n)) (HNN : Hid (stN n = n)) (HK : (wrap64 (a6.tmod 129 + 129)).tmod 129 = k)
    (HS : Hid (S = ⟨(sealL (stG a0) (stN a2) (bytesOf (cut96 a3))).toArray⟩)) (HT : Hid (T = ⟨(sealL (stG a1) (stN n) (bytesOf (cut96 a4))).toArray⟩)) (HX : Hid (X = wholeB a5))
    (hXs : X.size = 128) (hTs : T.size = 128)
    (ht : Hid (∀ W, Calls Try.prog 43 #[.string S, .string T, .int .i64 k] W fun e w' => e = .returned (.tuple #[.string t, .int .i64 0]) ∧ Below W.heap.size W w'))
    (hu : Hid (∀ W, Calls Try.prog 43 #[.string X, .string T, .int .i64 k] W fun e w' => e = .returned (.tuple #[.string u, .int .i64 0]) ∧ Below W.heap.size W w'))
    (hot : Hid (∀ W, Calls Try.prog 23 #[.string t] W fun e w' => e = .returned (.tuple #[.int .i64 g1, .int .i64 n1, .string p1, .int .i64 F1]) ∧ Below W.heap.size W w'))
    (hou : Hid (∀ W, Calls Try.prog 23 #[.string u] W fun e w' => e = .returned (.tuple #[.int .i64 g2, .int .i64 n2, .string p2, .int .i64 F2]) ∧ Below W.heap.size W w'))
    (hc1 : g = h ∨ (g ≠ h ∧ F1 = 0 ∧ (t.toList == S.toList) = true) ∨ (g ≠ h ∧ F1 = 0 ∧ (t.toList == S.toList) = false ∧ (t.toList == T.toList) = true) ∨ ((g != h) = true ∧ (F1 == 0) = false ∧ (t.toList == S.toList) = false ∧ (t.toList == T.toList) = false))
    (hc2 : ((X.extract 126 128).toList == (T.extract 126 128).toList) = true ∨ (((X.extract 126 128).toList == (T.extract 126 128).toList) = false ∧ (F2 != 0) = true) ∨ (((X.extract 126 128).toList == (T.extract 126 128).toList) = false ∧ F2 = 0 ∧ (u.toList == T.toList) = true) ∨ (((X.extract 126 128).toList == (T.extract 126 128).toList) = false ∧ F2 = 0 ∧ (u.toList == T.toList) = false ∧ (g2 != h) = true) ∨ (((X.extract 126 128).toList == (T.extract 126 128).toList) = false ∧ F2 = 0 ∧ (u.toList == T.toList) = false ∧ g2 = h ∧ (n2 != n) = true)) :
    Calls Try.prog 11 #[.int .i64 a0, .int .i64 a1, .int .i64 a2, .string a3, .string a4, .string a5, .int .i64 a6] w fun e w' => e = .returned (.bool true) ∧ Below w.heap.size w w' := by
  have HC2 := Lib.hid hc2
  clear hc2
  rcases hc1 with rfl | ⟨d1, rfl, d3⟩ | ⟨d1, rfl, d3, d4⟩ | ⟨d1, d2, d3, d4⟩
  all_goals
    go_enter Try.func11, Try.ntmps11
    go_wp2_with fail
    refine (stamped_to a0 a2 _ n a3 S _ h3 HG HN h0 HS).mono ?_
    rintro e w1 ⟨rfl, hb1⟩
    go_wp2_with fail
    refine (stamped_to a1 n _ n a4 T _ h4 HH HNN h1 HT).mono ?_
    rintro e w2 ⟨rfl, hb2⟩
    go_wp2_with fail
    refine (ht.out _).mono ?_
    rintro e w3 ⟨rfl, hb3⟩
    go_wp2_with fail
    refine (whole_to a5 X _ h5 HX).mono ?_
    rintro e w4 ⟨rfl, rfl⟩
    go_wp2_with fail
    refine (hu.out _).mono ?_
    rintro e w5 ⟨rfl, hb5⟩
    go_wp2_with fail
    refine (alive03_any _).mono ?_
    rintro e w6 ⟨rfl, hb6⟩
    go_wp2_with fail
    refine (hot.out _).mono ?_
    rintro e w7 ⟨rfl, hb7⟩
    go_wp2_with fail
    refine (hou.out _).mono ?_
    rintro e w8 ⟨rfl, hb8⟩
    have hfin := bel (bel (bel (bel (bel (bel hb1 hb2) hb3) hb5) hb6) hb7) hb8
    clear hb1 hb2 hb3 hb5 hb6 hb7 hb8
    rcases HC2.out with q1 | ⟨q1, q2⟩ | ⟨q1, rfl, q3⟩ | ⟨q1, rfl, q3, q4⟩ | ⟨q1, rfl, q3, rfl, q5⟩
    all_goals
      go_wp2_with fail
      refine (whole_to a5 X _ h5 HX).mono ?_
      rintro e w9 ⟨rfl, rfl⟩
    all_goals
      go_wp2
      go_ret
      exact ⟨ret_bool (by first | rfl | simp [*]), hfin⟩
set_option maxRecDepth 100000 in
theorem SealTorn_walk (a0 a1 a2 : Int) (a3 a4 a5 : ByteArray) (a6 : Int) (w : World) (h0 : (Lit.int .i64 a0).wf = true) (h1 : (Lit.int .i64 a1).wf = true) (h2 : (Lit.int .i64 a2).wf = true) (h3 : a3.size ≤ maxLen) (h4 : a4.size ≤ maxLen) (h5 : a5.size ≤ maxLen) (h6 : (Lit.int .i64 a6).wf = true) :
    Calls Try.prog 11 #[.int .i64 a0, .int .i64 a1, .int .i64 a2, .string a3, .string a4, .string a5, .int .i64 a6] w fun e w' => e = .returned (.bool true) ∧ Below w.heap.size w w' := by
  obtain ⟨S, hS⟩ : ∃ S, S = ByteArray.mk (sealL (stG a0) (stN a2) (bytesOf (cut96 a3))).toArray := ⟨_, rfl⟩
  obtain ⟨T, hT⟩ : ∃ T, T = ByteArray.mk (sealL (stG a1) (stN (stN a2)) (bytesOf (cut96 a4))).toArray := ⟨_, rfl⟩
  obtain ⟨X, hX⟩ : ∃ X, X = wholeB a5 := ⟨_, rfl⟩
  have sS := sealed_of _ _ _ (st_ok a0 a2) (cut96_size a3) S hS
  have sT := sealed_of _ _ _ (st_ok a1 (stN a2)) (cut96_size a4) T hT
  rw [stN_stN] at sT
  have hXs : X.size = 128 := by rw [hX]; exact wholeB_size a5
  obtain ⟨k0, k1⟩ := kN_range a6
  obtain ⟨t, ht⟩ : ∃ t, t = over S T (kN a6).toNat := ⟨_, rfl⟩
  obtain ⟨u, hu⟩ : ∃ u, u = over X T (kN a6).toNat := ⟨_, rfl⟩
  have hts : t.size = 128 := by rw [ht]; exact over_size S T _ sS.size sT.size (by omega)
  have hus : u.size = 128 := by rw [hu]; exact over_size X T _ hXs sT.size (by omega)
  have l128 : (128 : Nat) ≤ maxLen := by decide
  refine torn_core a0 a1 a2 a3 a4 a5 a6 w h0 h1 h2 h3 h4 h5 h6 _ _ _ (kN a6) S T X t u _ _ _ _ _ _ _ _ (Lib.hid rfl) (Lib.hid rfl) (Lib.hid rfl) (Lib.hid (stN_stN a2)) (kN_walk a6) (Lib.hid hS) (Lib.hid hT) (Lib.hid hX) hXs sT.size
    (Lib.hid fun W => torn_here S T t _ W sS.size sT.size k0 k1 ht) (Lib.hid fun W => torn_here X T u _ W hXs sT.size k0 k1 hu) (Lib.hid fun W => open_any t W (by omega)) (Lib.hid fun W => open_any u W (by omega)) ?_ ?_
  · by_cases hgh : stG a0 = stG a1
    · exact .inl hgh
    · rcases torn_two sS sT hgh (kN a6).toNat (by omega) ht with ⟨d1, d2⟩ | ⟨d1, d2, d3⟩ | ⟨d1, d2, d3, _⟩
      · exact .inr (.inl ⟨hgh, d1, beq_toList_iff.2 d2⟩)
      · exact .inr (.inr (.inl ⟨hgh, d1, bytes_ne d2, beq_toList_iff.2 d3⟩))
      · exact .inr (.inr (.inr ⟨by simpa using hgh, by simpa using d1, bytes_ne d2, bytes_ne d3⟩))
  · by_cases c1 : X.extract 126 128 = T.extract 126 128
    · exact .inl (beq_toList_iff.2 c1)
    · by_cases c2 : openE u = 0
      · by_cases c3 : u = T
        · exact .inr (.inr (.inl ⟨bytes_ne c1, c2, beq_toList_iff.2 c3⟩))
        · by_cases c4 : openG u = stG a1
          · have c5 : openN u ≠ stN a2 := by
              rcases torn_other hXs sT (kN a6).toNat (by omega) hu with e | e | e | e | e
              · exact absurd e c1
              · exact absurd c2 e
              · exact absurd e c3
              · exact absurd c4 e
              · exact e
            exact .inr (.inr (.inr (.inr ⟨bytes_ne c1, c2, bytes_ne c3, c4, by simpa using c5⟩)))
          · exact .inr (.inr (.inr (.inl ⟨bytes_ne c1, c2, bytes_ne c3, by simpa using c4⟩)))
      · exact .inr (.inl ⟨bytes_ne c1, by simpa using c2⟩)
end Go.Proofs.Ytpccdlpkaflioaa
