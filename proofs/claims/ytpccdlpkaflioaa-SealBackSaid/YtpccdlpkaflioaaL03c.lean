/- The walk of SealBack. -/
import Derived.Test.YtpccdlpkaflioaaL03
import Derived.Test.YtpccdlpkaflioaaC03t
set_option linter.unusedVariables false
set_option linter.unusedSimpArgs false
namespace Go.Proofs.Ytpccdlpkaflioaa
open Go.RowKit
/-- Open of any text: what it answers, and that what is opened is sealed as it was. -/
theorem open_seals (t : ByteArray) (ht : t.size ≤ maxLen) : ∃ g n p E, ((∀ W, Calls Try.prog 23 #[.string t] W fun e w' => e = .returned (.tuple #[.int .i64 g, .int .i64 n, .string p, .int .i64 E]) ∧ Below W.heap.size W w') ∧
    ((E = 0 ∧ ∀ W, Calls Try.prog 22 #[.int .i64 g, .int .i64 n, .string p] W fun e w' => e = .returned (.tuple #[.string t, .int .i64 0]) ∧ Below W.heap.size W w') ∨ (E ≠ 0 ∧ g = 0 ∧ n = 0 ∧ p = ⟨#[]⟩))) := by
  refine ⟨openG t, openN t, openP t, openE t, fun W => open_any t W ht, ?_⟩
  unfold openG openN openP
  by_cases h : openE t = 0
  · left
    rw [if_pos h, if_pos h, if_pos h]
    obtain ⟨h1, h2, h3, h4⟩ := openE_zero h
    refine ⟨h, fun W => ?_⟩
    have := seal_ok _ _ _ W h2 h3
    rwa [← h4] at this
  · right
    rw [if_neg h, if_neg h, if_neg h]
    exact ⟨h, rfl, rfl, rfl⟩
theorem over_cat (o t : ByteArray) (k : Int) (ho : o.size = 128) (ht : t.size = 128) (h0 : 0 ≤ k) (h1 : k ≤ 128) : over o t k.toNat = t.extract 0 k.toNat ++ o.extract k.toNat o.size := by
  apply bytes_ext
  rw [ByteArray.data_append, Array.toList_append, ext_list, ext_list]
  unfold over
  simp only [List.drop_zero, Nat.sub_zero]
  congr 1
  rw [List.take_of_length_le]
  rw [List.length_drop, len_data]
  omega
set_option maxHeartbeats 2000000 in
set_option maxRecDepth 100000 in
theorem back_core (a0 a1 : Int) (a2 a3 a4 : ByteArray) (a5 : Int) (w : World) (h0 : (Lit.int .i64 a0).wf = true) (h1 : (Lit.int .i64 a1).wf = true) (h2 : a2.size ≤ maxLen) (h3 : a3.size ≤ maxLen) (h4 : a4.size ≤ maxLen) (h5 : (Lit.int .i64 a5).wf = true)
    (o t u : ByteArray) (E : Int) (HO3 : Hid (t = a3.extract 0 130)) (HO4 : Hid (o = a4.extract 0 130))
    (htorn : Hid (∀ W, Calls Try.prog 43 #[.string o, .string t, .int .i64 a5] W fun e w' => e = .returned (.tuple #[.string u, .int .i64 E]) ∧ Below W.heap.size W w'))
    (hc : (o.size ≠ 128 ∧ E = 2 ∧ u = ⟨#[]⟩) ∨ (o.size = 128 ∧ t.size ≠ 128 ∧ E = 2 ∧ u = ⟨#[]⟩) ∨ (o.size = 128 ∧ t.size = 128 ∧ a5 < 0 ∧ E = 1 ∧ u = ⟨#[]⟩) ∨ (o.size = 128 ∧ t.size = 128 ∧ ¬ a5 < 0 ∧ 128 < a5 ∧ E = 1 ∧ u = ⟨#[]⟩) ∨ (o.size = 128 ∧ t.size = 128 ∧ 0 ≤ a5 ∧ a5 ≤ 128 ∧ E = 0 ∧ u = t.extract 0 a5.toNat ++ o.extract a5.toNat o.size)) :
    Calls Try.prog 10 #[.int .i64 a0, .int .i64 a1, .string a2, .string a3, .string a4, .int .i64 a5] w fun e w' => e = .returned (.bool true) ∧ Below w.heap.size w w' := by
  obtain ⟨g, hg⟩ : ∃ g, stG a0 = g := ⟨_, rfl⟩
  obtain ⟨n, hn⟩ : ∃ n, stN a1 = n := ⟨_, rfl⟩
  obtain ⟨S, hS⟩ : ∃ S, S = ByteArray.mk (sealL (stG a0) (stN a1) (bytesOf (cut96 a2))).toArray := ⟨_, rfl⟩
  obtain ⟨o1, o2, o3, o4, o5⟩ := opened _ _ _ (st_ok a0 a1) (cut96_size a2) S hS
  have hopen : ∀ W, Calls Try.prog 23 #[.string S] W fun e w' => e = .returned (.tuple #[.int .i64 g, .int .i64 n, .string (cut96 a2), .int .i64 0]) ∧ Below W.heap.size W w' := by
    intro W
    refine (open_any S W (by rw [o1]; decide)).mono ?_
    rintro e W' ⟨he, hb⟩
    refine ⟨?_, hb⟩
    rw [he]
    unfold openG openN openP
    rw [if_pos o2, if_pos o2, if_pos o2, o2, o3, o4, o5, hg, hn]
  have htm : t.size ≤ maxLen := by rw [HO3.out]; exact ext_max _ _ h3
  obtain ⟨g2, n2, p2, F, hopen2, hback⟩ := open_seals t htm
  have HS := Lib.hid hS
  have HO := Lib.hid hopen
  have HO2 := Lib.hid hopen2
  have HG := Lib.hid hg
  have HN := Lib.hid hn
  have hx : (cut96 a2).toList = (a2.extract 0 (min (↑a2.size : Int) 96).toNat).toList := by
    congr 1
    unfold cut96
    rcases Nat.lt_or_ge 96 a2.size with c | c
    · rw [show (min (↑a2.size : Int) 96).toNat = 96 by omega]
    · rw [show (min (↑a2.size : Int) 96).toNat = a2.size by omega, ext0_all a2 96 c, ext0_all a2 a2.size (Nat.le_refl _)]
  clear hS hopen hg hn o1 o2 o3 o4 o5 hopen2
  rcases hback with ⟨rfl, hs2⟩ | ⟨hF, rfl, rfl, rfl⟩
  · have HS2 := Lib.hid hs2
    clear hs2
    rcases hc with ⟨c1, rfl, rfl⟩ | ⟨c1, c2, rfl, rfl⟩ | ⟨c1, c2, c3, rfl, rfl⟩ | ⟨c1, c2, c3, c4, rfl, rfl⟩ | ⟨c1, c2, c3, c4, rfl, hu⟩
    case' inr.inr.inr.inr =>
      have hku : ¬ 9223372036854775807 < (t.extract 0 a5.toNat).size + (o.extract a5.toNat o.size).size := by
        rw [ByteArray.size_extract, ByteArray.size_extract]
        omega
      have hlast : (u.toList == (t.extract 0 a5.toNat ++ o.extract a5.toNat o.size).toList) = true := by rw [hu]; exact bytes_eq_self _
      have hlast2 : u.toList = (t.extract 0 a5.toNat ++ o.extract a5.toNat 128).toList := by rw [hu, c1]
      clear hu
    all_goals
      go_enter Try.func10, Try.ntmps10
      go_wp2_with (first
        | (go_at_call 28; refine (stamped_to a0 a1 g n a2 S _ h2 HG HN h0 HS).mono ?_; rintro e w1 ⟨rfl, hb1⟩)
        | (go_at_call 23; first | (with_reducible refine (HO.out _).mono ?_; rintro e w2 ⟨rfl, hb2⟩) | (refine (HO2.out _).mono ?_; rintro e w2 ⟨rfl, hb3⟩))
        | (go_at_call 25; refine (alive03_any _).mono ?_; rintro e w3 ⟨rfl, hb4⟩)
        | (go_at_call 21; first | (with_reducible refine (few03_to a3 t _ h3 HO3).mono ?_; rintro e w4 ⟨rfl, rfl⟩) | (refine (few03_to a4 o _ h4 HO4).mono ?_; rintro e w4 ⟨rfl, rfl⟩))
        | (go_at_call 22; refine (HS2.out _).mono ?_; rintro e w5 ⟨rfl, hb5⟩)
        | (go_at_call 43; refine (htorn.out _).mono ?_; rintro e w6 ⟨rfl, hb6⟩))
      try go_region
      try go_wp2
      go_ret
      refine ⟨ret_bool (by first | rfl | exact hlast | simp [*]), ?_⟩
      repeat (first | exact Below.refl _ _ | assumption | refine bel ?_ (by assumption) | apply Below.drew)
  · have hF2 : (F == 0) = false := by simpa using hF
    rcases hc with ⟨c1, rfl, rfl⟩ | ⟨c1, c2, rfl, rfl⟩ | ⟨c1, c2, c3, rfl, rfl⟩ | ⟨c1, c2, c3, c4, rfl, rfl⟩ | ⟨c1, c2, c3, c4, rfl, hu⟩
    case' inr.inr.inr.inr =>
      have hku : ¬ 9223372036854775807 < (t.extract 0 a5.toNat).size + (o.extract a5.toNat o.size).size := by
        rw [ByteArray.size_extract, ByteArray.size_extract]
        omega
      have hlast : (u.toList == (t.extract 0 a5.toNat ++ o.extract a5.toNat o.size).toList) = true := by rw [hu]; exact bytes_eq_self _
      have hlast2 : u.toList = (t.extract 0 a5.toNat ++ o.extract a5.toNat 128).toList := by rw [hu, c1]
      clear hu
    all_goals
      go_enter Try.func10, Try.ntmps10
      go_wp2_with (first
        | (go_at_call 28; refine (stamped_to a0 a1 g n a2 S _ h2 HG HN h0 HS).mono ?_; rintro e w1 ⟨rfl, hb1⟩)
        | (go_at_call 23; first | (with_reducible refine (HO.out _).mono ?_; rintro e w2 ⟨rfl, hb2⟩) | (refine (HO2.out _).mono ?_; rintro e w2 ⟨rfl, hb3⟩))
        | (go_at_call 25; refine (alive03_any _).mono ?_; rintro e w3 ⟨rfl, hb4⟩)
        | (go_at_call 21; first | (with_reducible refine (few03_to a3 t _ h3 HO3).mono ?_; rintro e w4 ⟨rfl, rfl⟩) | (refine (few03_to a4 o _ h4 HO4).mono ?_; rintro e w4 ⟨rfl, rfl⟩))
        | (go_at_call 43; refine (htorn.out _).mono ?_; rintro e w6 ⟨rfl, hb6⟩))
      try go_region
      try go_wp2
      go_ret
      refine ⟨ret_bool (by first | rfl | exact hlast | simp [*]), ?_⟩
      repeat (first | exact Below.refl _ _ | assumption | refine bel ?_ (by assumption) | apply Below.drew)
theorem SealBack_walk (a0 a1 : Int) (a2 a3 a4 : ByteArray) (a5 : Int) (w : World) (h0 : (Lit.int .i64 a0).wf = true) (h1 : (Lit.int .i64 a1).wf = true) (h2 : a2.size ≤ maxLen) (h3 : a3.size ≤ maxLen) (h4 : a4.size ≤ maxLen) (h5 : (Lit.int .i64 a5).wf = true) :
    Calls Try.prog 10 #[.int .i64 a0, .int .i64 a1, .string a2, .string a3, .string a4, .int .i64 a5] w fun e w' => e = .returned (.bool true) ∧ Below w.heap.size w w' := by
  obtain ⟨t, ht⟩ : ∃ t, t = a3.extract 0 130 := ⟨_, rfl⟩
  obtain ⟨o, ho⟩ : ∃ o, o = a4.extract 0 130 := ⟨_, rfl⟩
  refine back_core a0 a1 a2 a3 a4 a5 w h0 h1 h2 h3 h4 h5 o t _ _ (Lib.hid ht) (Lib.hid ho) (Lib.hid fun W => torn_any o t a5 W) ?_
  by_cases c1 : o.size = 128
  · by_cases c2 : t.size = 128
    · by_cases c3 : a5 < 0
      · have he : tornE o t a5 = 1 := by unfold tornE; rw [if_neg (by omega), if_pos (by omega)]
        exact .inr (.inr (.inl ⟨c1, c2, c3, he, by unfold tornS; rw [if_neg (by omega)]⟩))
      · by_cases c4 : 128 < a5
        · have he : tornE o t a5 = 1 := by unfold tornE; rw [if_neg (by omega), if_pos (by omega)]
          exact .inr (.inr (.inr (.inl ⟨c1, c2, c3, c4, he, by unfold tornS; rw [if_neg (by omega)]⟩)))
        · have he : tornE o t a5 = 0 := by unfold tornE; rw [if_neg (by omega), if_neg (by omega)]
          exact .inr (.inr (.inr (.inr ⟨c1, c2, by omega, by omega, he, by unfold tornS; rw [if_pos he]; exact over_cat o t a5 c1 c2 (by omega) (by omega)⟩)))
    · have he : tornE o t a5 = 2 := by unfold tornE; rw [if_pos (by omega)]
      exact .inr (.inl ⟨c1, c2, he, by unfold tornS; rw [if_neg (by omega)]⟩)
  · have he : tornE o t a5 = 2 := by unfold tornE; rw [if_pos (by omega)]
    exact .inl ⟨c1, he, by unfold tornS; rw [if_neg (by omega)]⟩
end Go.Proofs.Ytpccdlpkaflioaa
