/- The walk of SealAgain. -/
import Derived.Test.YtpccdlpkaflioaaL03d
set_option linter.unusedVariables false
set_option linter.unusedSimpArgs false
namespace Go.Proofs.Ytpccdlpkaflioaa
open Go.RowKit
set_option maxHeartbeats 4000000 in
set_option maxRecDepth 100000 in
theorem again_core (a0 a1 a2 : Int) (a3 a4 a5 : ByteArray) (a6 a7 : Int) (w : World) (h0 : (Lit.int .i64 a0).wf = true) (h1 : (Lit.int .i64 a1).wf = true) (h2 : (Lit.int .i64 a2).wf = true) (h3 : a3.size ≤ maxLen) (h4 : a4.size ≤ maxLen) (h5 : a5.size ≤ maxLen)
    (g h n k m : Int) (S T V t u : ByteArray) (g1 n1 F1 g2 n2 F2 : Int) (p1 p2 : ByteArray)
    (HG : Hid (stG a0 = g)) (HH : Hid (stG a1 = h)) (HN : Hid (stN a2 = n)) (HNN : Hid (stN n = n)) (HK : (wrap64 (a6.tmod 129 + 129)).tmod 129 = k) (HM : (wrap64 (a7.tmod 129 + 129)).tmod 129 = m)
    (HS : Hid (S = ⟨(sealL (stG a0) (stN a2) (bytesOf (cut96 a3))).toArray⟩)) (HT : Hid (T = ⟨(sealL (stG a1) (stN n) (bytesOf (cut96 a4))).toArray⟩)) (HV : Hid (V = ⟨(sealL (stG a1) (stN n) (bytesOf (cut96 a5))).toArray⟩))
    (ht : Hid (∀ W, Calls Try.prog 43 #[.string S, .string T, .int .i64 k] W fun e w' => e = .returned (.tuple #[.string t, .int .i64 0]) ∧ Below W.heap.size W w'))
    (hu : Hid (∀ W, Calls Try.prog 43 #[.string t, .string V, .int .i64 m] W fun e w' => e = .returned (.tuple #[.string u, .int .i64 0]) ∧ Below W.heap.size W w'))
    (hot : Hid (∀ W, Calls Try.prog 23 #[.string t] W fun e w' => e = .returned (.tuple #[.int .i64 g1, .int .i64 n1, .string p1, .int .i64 F1]) ∧ Below W.heap.size W w'))
    (hou : Hid (∀ W, Calls Try.prog 23 #[.string u] W fun e w' => e = .returned (.tuple #[.int .i64 g2, .int .i64 n2, .string p2, .int .i64 F2]) ∧ Below W.heap.size W w'))
    (hc1 : (g == h) = true ∨ ((g == h) = false ∧ F1 = 0) ∨ ((g == h) = false ∧ (F1 == 0) = false ∧ F2 = 0 ∧ (u.toList == V.toList) = true) ∨ ((g == h) = false ∧ (F1 == 0) = false ∧ (F2 == 0) = false ∧ (u.toList == V.toList) = false)) :
    Calls Try.prog 12 #[.int .i64 a0, .int .i64 a1, .int .i64 a2, .string a3, .string a4, .string a5, .int .i64 a6, .int .i64 a7] w fun e w' => e = .returned (.bool true) ∧ Below w.heap.size w w' := by
  rcases hc1 with d1 | ⟨d1, rfl⟩ | ⟨d1, d2, rfl, d4⟩ | ⟨d1, d2, d3, d4⟩
  all_goals
    go_enter Try.func12, Try.ntmps12
    go_wp2_with fail
    refine (stamped_to a0 a2 _ n a3 S _ h3 HG HN h0 HS).mono ?_
    rintro e w1 ⟨rfl, hb1⟩
    go_wp2_with fail
    refine (stamped_to a1 n _ n a4 T _ h4 HH HNN h1 HT).mono ?_
    rintro e w2 ⟨rfl, hb2⟩
    go_wp2_with fail
    refine (stamped_to a1 n _ n a5 V _ h5 HH HNN h1 HV).mono ?_
    rintro e w3 ⟨rfl, hb3⟩
    go_wp2_with fail
    refine (ht.out _).mono ?_
    rintro e w4 ⟨rfl, hb4⟩
    go_wp2_with fail
    refine (hu.out _).mono ?_
    rintro e w5 ⟨rfl, hb5⟩
    go_wp2_with fail
    refine (alive03_any _).mono ?_
    rintro e w6 ⟨rfl, hb6⟩
    go_wp2_with fail
    refine (hot.out _).mono ?_
    rintro e w7 ⟨rfl, hb7⟩
    have hfin := bel (bel (bel (bel (bel (bel hb1 hb2) hb3) hb4) hb5) hb6) hb7
    clear hb1 hb2 hb3 hb4 hb5 hb6 hb7
    go_wp2_with fail
  · go_ret
    exact ⟨ret_bool (by first | rfl | simp [*]), hfin⟩
  · go_ret
    exact ⟨ret_bool (by first | rfl | simp [*]), hfin⟩
  all_goals
    refine (hou.out _).mono ?_
    rintro e w8 ⟨rfl, hb8⟩
    go_wp2
    go_ret
    exact ⟨ret_bool (by first | rfl | simp [*]), bel hfin hb8⟩
set_option maxRecDepth 100000 in
theorem SealAgain_walk (a0 a1 a2 : Int) (a3 a4 a5 : ByteArray) (a6 a7 : Int) (w : World) (h0 : (Lit.int .i64 a0).wf = true) (h1 : (Lit.int .i64 a1).wf = true) (h2 : (Lit.int .i64 a2).wf = true) (h3 : a3.size ≤ maxLen) (h4 : a4.size ≤ maxLen) (h5 : a5.size ≤ maxLen) (h6 : (Lit.int .i64 a6).wf = true) (h7 : (Lit.int .i64 a7).wf = true) :
    Calls Try.prog 12 #[.int .i64 a0, .int .i64 a1, .int .i64 a2, .string a3, .string a4, .string a5, .int .i64 a6, .int .i64 a7] w fun e w' => e = .returned (.bool true) ∧ Below w.heap.size w w' := by
  obtain ⟨S, hS⟩ : ∃ S, S = ByteArray.mk (sealL (stG a0) (stN a2) (bytesOf (cut96 a3))).toArray := ⟨_, rfl⟩
  obtain ⟨T, hT⟩ : ∃ T, T = ByteArray.mk (sealL (stG a1) (stN (stN a2)) (bytesOf (cut96 a4))).toArray := ⟨_, rfl⟩
  obtain ⟨V, hV⟩ : ∃ V, V = ByteArray.mk (sealL (stG a1) (stN (stN a2)) (bytesOf (cut96 a5))).toArray := ⟨_, rfl⟩
  have sS := sealed_of _ _ _ (st_ok a0 a2) (cut96_size a3) S hS
  have sT := sealed_of _ _ _ (st_ok a1 (stN a2)) (cut96_size a4) T hT
  have sV := sealed_of _ _ _ (st_ok a1 (stN a2)) (cut96_size a5) V hV
  rw [stN_stN] at sT sV
  obtain ⟨k0, k1⟩ := kN_range a6
  obtain ⟨m0, m1⟩ := kN_range a7
  obtain ⟨t, ht⟩ : ∃ t, t = over S T (kN a6).toNat := ⟨_, rfl⟩
  obtain ⟨u, hu⟩ : ∃ u, u = over t V (kN a7).toNat := ⟨_, rfl⟩
  have hts : t.size = 128 := by rw [ht]; exact over_size S T _ sS.size sT.size (by omega)
  have hus : u.size = 128 := by rw [hu]; exact over_size t V _ hts sV.size (by omega)
  have l128 : (128 : Nat) ≤ maxLen := by decide
  refine again_core a0 a1 a2 a3 a4 a5 a6 a7 w h0 h1 h2 h3 h4 h5 _ _ _ (kN a6) (kN a7) S T V t u _ _ _ _ _ _ _ _ (Lib.hid rfl) (Lib.hid rfl) (Lib.hid rfl) (Lib.hid (stN_stN a2)) (kN_walk a6) (kN_walk a7) (Lib.hid hS) (Lib.hid hT) (Lib.hid hV)
    (Lib.hid fun W => torn_here S T t _ W sS.size sT.size k0 k1 ht) (Lib.hid fun W => torn_here t V u _ W hts sV.size m0 m1 hu) (Lib.hid fun W => open_any t W (by omega)) (Lib.hid fun W => open_any u W (by omega)) ?_
  by_cases hgh : stG a0 = stG a1
  · exact .inl (by simpa using hgh)
  · have hg : (stG a0 == stG a1) = false := by simpa using hgh
    rcases torn_again sS sT sV hgh (kN a6).toNat (kN a7).toNat (by omega) (by omega) ht hu with d1 | ⟨d1, d2, d3⟩ | ⟨d1, d2, d3⟩
    · exact .inr (.inl ⟨hg, d1⟩)
    · exact .inr (.inr (.inl ⟨hg, by simpa using d1, d2, beq_toList_iff.2 d3⟩))
    · exact .inr (.inr (.inr ⟨hg, by simpa using d1, by simpa using d2, bytes_ne d3⟩))
end Go.Proofs.Ytpccdlpkaflioaa
