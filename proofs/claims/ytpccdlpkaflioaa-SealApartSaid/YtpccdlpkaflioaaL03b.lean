/- The walk of SealApart. -/
import Derived.Test.YtpccdlpkaflioaaL03
set_option linter.unusedVariables false
set_option linter.unusedSimpArgs false
namespace Go.Proofs.Ytpccdlpkaflioaa
open Go.RowKit
theorem mkArr_inj {a b : List UInt8} (h : ByteArray.mk a.toArray = ByteArray.mk b.toArray) : a = b := by
  have := congrArg (fun x : ByteArray => x.data.toList) h
  exact this
theorem apart_plain (a0 a1 a2 a3 : Int) (p q S T : ByteArray) (hS : S = ⟨(sealL (stG a0) (stN a2) (bytesOf (cut96 p))).toArray⟩) (hT : T = ⟨(sealL (stG a1) (stN a3) (bytesOf (cut96 q))).toArray⟩) :
    (S.toList == T.toList) = (stG a0 == stG a1 && stN a2 == stN a3 && (cut96 p).toList == (cut96 q).toList) := by
  rw [Bool.eq_iff_iff, beq_toList_iff]
  simp only [Bool.and_eq_true, beq_iff_eq]
  constructor
  · intro h
    rw [hS, hT] at h
    obtain ⟨h1, h2, h3⟩ := sealL_inj (st_ok a0 a2) (st_ok a1 a3) (cut96_size p) (cut96_size q) (mkArr_inj h)
    exact ⟨⟨h1, h2⟩, by rw [h3]⟩
  · rintro ⟨⟨h1, h2⟩, h3⟩
    have h4 : cut96 p = cut96 q := bytes_of_eq (by rw [h3]; simp)
    rw [hS, hT, h1, h2, h4]
theorem cut96_cut (p : ByteArray) : cut96 (cut96 p) = cut96 p := ext0_all _ _ (cut96_size p)
theorem apart_n1 (a0 a1 a2 a3 : Int) (a4 a5 : ByteArray) (w : World) (h0 : (Lit.int .i64 a0).wf = true) (h1 : (Lit.int .i64 a1).wf = true) (h2 : (Lit.int .i64 a2).wf = true) (h3 : (Lit.int .i64 a3).wf = true) (h4 : a4.size ≤ maxLen) (h5 : a5.size ≤ maxLen) (c4 : a4.size ≤ 96) (c5 : a5.size ≤ 96) :
    Calls Try.prog 7 #[.int .i64 a0, .int .i64 a1, .int .i64 a2, .int .i64 a3, .string a4, .string a5] w fun e w' => e = .returned (.bool true) ∧ Below w.heap.size w w' := by
  obtain ⟨g, hg⟩ : ∃ g, stG a0 = g := ⟨_, rfl⟩
  obtain ⟨h, hh⟩ : ∃ h, stG a1 = h := ⟨_, rfl⟩
  obtain ⟨n, hn⟩ : ∃ n, stN a2 = n := ⟨_, rfl⟩
  obtain ⟨m, hm⟩ : ∃ m, stN a3 = m := ⟨_, rfl⟩
  have ha : cut96 (a4) = a4 := by first | exact ext0_all _ _ c4 | exact cut96_cut _
  have hb : cut96 (a5) = a5 := by first | exact ext0_all _ _ c5 | exact cut96_cut _
  have hsa : (a4).size ≤ maxLen := by first | exact h4 | exact ext_max _ _ h4
  have hsb : (a5).size ≤ maxLen := by first | exact h5 | exact ext_max _ _ h5
  obtain ⟨S, hS⟩ : ∃ S, S = ByteArray.mk (sealL (stG a0) (stN a2) (bytesOf (cut96 (a4)))).toArray := ⟨_, rfl⟩
  obtain ⟨T, hT⟩ : ∃ T, T = ByteArray.mk (sealL (stG a1) (stN a3) (bytesOf (cut96 (a5)))).toArray := ⟨_, rfl⟩
  have key := apart_plain a0 a1 a2 a3 _ _ S T hS hT
  rw [hg, hh, hn, hm, ha, hb] at key
  have HS := Lib.hid hS
  have HT := Lib.hid hT
  have HG := Lib.hid hg
  have HH := Lib.hid hh
  have HN := Lib.hid hn
  have HM := Lib.hid hm
  clear hS hT hg hh hn hm ha hb
  go_enter Try.func7, Try.ntmps7
  go_wp2_with fail
  go_region
  go_wp2_with fail
  refine (stamped_to a0 a2 g n _ S _ hsa HG HN h0 HS).mono ?_
  rintro e w1 ⟨rfl, hb1⟩
  go_wp2_with fail
  refine (stamped_to a1 a3 h m _ T _ hsb HH HM h1 HT).mono ?_
  rintro e w2 ⟨rfl, hb2⟩
  go_wp2_with (go_at_call 25; refine (alive03_any _).mono ?_; rintro e w3 ⟨rfl, hb3⟩)
  all_goals
    go_ret
    refine ⟨ret_bool (by first | rfl | simp [*]), ?_⟩
    repeat (first | exact Below.refl _ _ | assumption | refine bel ?_ (by assumption) | apply Below.drew)
theorem apart_n2 (a0 a1 a2 a3 : Int) (a4 a5 : ByteArray) (w : World) (h0 : (Lit.int .i64 a0).wf = true) (h1 : (Lit.int .i64 a1).wf = true) (h2 : (Lit.int .i64 a2).wf = true) (h3 : (Lit.int .i64 a3).wf = true) (h4 : a4.size ≤ maxLen) (h5 : a5.size ≤ maxLen) (c4 : a4.size ≤ 96) (c5 : 96 < a5.size) :
    Calls Try.prog 7 #[.int .i64 a0, .int .i64 a1, .int .i64 a2, .int .i64 a3, .string a4, .string a5] w fun e w' => e = .returned (.bool true) ∧ Below w.heap.size w w' := by
  obtain ⟨g, hg⟩ : ∃ g, stG a0 = g := ⟨_, rfl⟩
  obtain ⟨h, hh⟩ : ∃ h, stG a1 = h := ⟨_, rfl⟩
  obtain ⟨n, hn⟩ : ∃ n, stN a2 = n := ⟨_, rfl⟩
  obtain ⟨m, hm⟩ : ∃ m, stN a3 = m := ⟨_, rfl⟩
  have ha : cut96 (a4) = a4 := by first | exact ext0_all _ _ c4 | exact cut96_cut _
  have hb : cut96 (a5.extract 0 96) = a5.extract 0 96 := by first | exact ext0_all _ _ c5 | exact cut96_cut _
  have hsa : (a4).size ≤ maxLen := by first | exact h4 | exact ext_max _ _ h4
  have hsb : (a5.extract 0 96).size ≤ maxLen := by first | exact h5 | exact ext_max _ _ h5
  obtain ⟨S, hS⟩ : ∃ S, S = ByteArray.mk (sealL (stG a0) (stN a2) (bytesOf (cut96 (a4)))).toArray := ⟨_, rfl⟩
  obtain ⟨T, hT⟩ : ∃ T, T = ByteArray.mk (sealL (stG a1) (stN a3) (bytesOf (cut96 (a5.extract 0 96)))).toArray := ⟨_, rfl⟩
  have key := apart_plain a0 a1 a2 a3 _ _ S T hS hT
  rw [hg, hh, hn, hm, ha, hb] at key
  have HS := Lib.hid hS
  have HT := Lib.hid hT
  have HG := Lib.hid hg
  have HH := Lib.hid hh
  have HN := Lib.hid hn
  have HM := Lib.hid hm
  clear hS hT hg hh hn hm ha hb
  go_enter Try.func7, Try.ntmps7
  go_wp2_with fail
  go_region
  go_wp2_with fail
  refine (stamped_to a0 a2 g n _ S _ hsa HG HN h0 HS).mono ?_
  rintro e w1 ⟨rfl, hb1⟩
  go_wp2_with fail
  refine (stamped_to a1 a3 h m _ T _ hsb HH HM h1 HT).mono ?_
  rintro e w2 ⟨rfl, hb2⟩
  go_wp2_with (go_at_call 25; refine (alive03_any _).mono ?_; rintro e w3 ⟨rfl, hb3⟩)
  all_goals
    go_ret
    refine ⟨ret_bool (by first | rfl | simp [*]), ?_⟩
    repeat (first | exact Below.refl _ _ | assumption | refine bel ?_ (by assumption) | apply Below.drew)
theorem apart_n3 (a0 a1 a2 a3 : Int) (a4 a5 : ByteArray) (w : World) (h0 : (Lit.int .i64 a0).wf = true) (h1 : (Lit.int .i64 a1).wf = true) (h2 : (Lit.int .i64 a2).wf = true) (h3 : (Lit.int .i64 a3).wf = true) (h4 : a4.size ≤ maxLen) (h5 : a5.size ≤ maxLen) (c4 : 96 < a4.size) (c5 : a5.size ≤ 96) :
    Calls Try.prog 7 #[.int .i64 a0, .int .i64 a1, .int .i64 a2, .int .i64 a3, .string a4, .string a5] w fun e w' => e = .returned (.bool true) ∧ Below w.heap.size w w' := by
  obtain ⟨g, hg⟩ : ∃ g, stG a0 = g := ⟨_, rfl⟩
  obtain ⟨h, hh⟩ : ∃ h, stG a1 = h := ⟨_, rfl⟩
  obtain ⟨n, hn⟩ : ∃ n, stN a2 = n := ⟨_, rfl⟩
  obtain ⟨m, hm⟩ : ∃ m, stN a3 = m := ⟨_, rfl⟩
  have ha : cut96 (a4.extract 0 96) = a4.extract 0 96 := by first | exact ext0_all _ _ c4 | exact cut96_cut _
  have hb : cut96 (a5) = a5 := by first | exact ext0_all _ _ c5 | exact cut96_cut _
  have hsa : (a4.extract 0 96).size ≤ maxLen := by first | exact h4 | exact ext_max _ _ h4
  have hsb : (a5).size ≤ maxLen := by first | exact h5 | exact ext_max _ _ h5
  obtain ⟨S, hS⟩ : ∃ S, S = ByteArray.mk (sealL (stG a0) (stN a2) (bytesOf (cut96 (a4.extract 0 96)))).toArray := ⟨_, rfl⟩
  obtain ⟨T, hT⟩ : ∃ T, T = ByteArray.mk (sealL (stG a1) (stN a3) (bytesOf (cut96 (a5)))).toArray := ⟨_, rfl⟩
  have key := apart_plain a0 a1 a2 a3 _ _ S T hS hT
  rw [hg, hh, hn, hm, ha, hb] at key
  have HS := Lib.hid hS
  have HT := Lib.hid hT
  have HG := Lib.hid hg
  have HH := Lib.hid hh
  have HN := Lib.hid hn
  have HM := Lib.hid hm
  clear hS hT hg hh hn hm ha hb
  go_enter Try.func7, Try.ntmps7
  go_wp2_with fail
  go_region
  go_wp2_with fail
  refine (stamped_to a0 a2 g n _ S _ hsa HG HN h0 HS).mono ?_
  rintro e w1 ⟨rfl, hb1⟩
  go_wp2_with fail
  refine (stamped_to a1 a3 h m _ T _ hsb HH HM h1 HT).mono ?_
  rintro e w2 ⟨rfl, hb2⟩
  go_wp2_with (go_at_call 25; refine (alive03_any _).mono ?_; rintro e w3 ⟨rfl, hb3⟩)
  all_goals
    go_ret
    refine ⟨ret_bool (by first | rfl | simp [*]), ?_⟩
    repeat (first | exact Below.refl _ _ | assumption | refine bel ?_ (by assumption) | apply Below.drew)
theorem apart_n4 (a0 a1 a2 a3 : Int) (a4 a5 : ByteArray) (w : World) (h0 : (Lit.int .i64 a0).wf = true) (h1 : (Lit.int .i64 a1).wf = true) (h2 : (Lit.int .i64 a2).wf = true) (h3 : (Lit.int .i64 a3).wf = true) (h4 : a4.size ≤ maxLen) (h5 : a5.size ≤ maxLen) (c4 : 96 < a4.size) (c5 : 96 < a5.size) :
    Calls Try.prog 7 #[.int .i64 a0, .int .i64 a1, .int .i64 a2, .int .i64 a3, .string a4, .string a5] w fun e w' => e = .returned (.bool true) ∧ Below w.heap.size w w' := by
  obtain ⟨g, hg⟩ : ∃ g, stG a0 = g := ⟨_, rfl⟩
  obtain ⟨h, hh⟩ : ∃ h, stG a1 = h := ⟨_, rfl⟩
  obtain ⟨n, hn⟩ : ∃ n, stN a2 = n := ⟨_, rfl⟩
  obtain ⟨m, hm⟩ : ∃ m, stN a3 = m := ⟨_, rfl⟩
  have ha : cut96 (a4.extract 0 96) = a4.extract 0 96 := by first | exact ext0_all _ _ c4 | exact cut96_cut _
  have hb : cut96 (a5.extract 0 96) = a5.extract 0 96 := by first | exact ext0_all _ _ c5 | exact cut96_cut _
  have hsa : (a4.extract 0 96).size ≤ maxLen := by first | exact h4 | exact ext_max _ _ h4
  have hsb : (a5.extract 0 96).size ≤ maxLen := by first | exact h5 | exact ext_max _ _ h5
  obtain ⟨S, hS⟩ : ∃ S, S = ByteArray.mk (sealL (stG a0) (stN a2) (bytesOf (cut96 (a4.extract 0 96)))).toArray := ⟨_, rfl⟩
  obtain ⟨T, hT⟩ : ∃ T, T = ByteArray.mk (sealL (stG a1) (stN a3) (bytesOf (cut96 (a5.extract 0 96)))).toArray := ⟨_, rfl⟩
  have key := apart_plain a0 a1 a2 a3 _ _ S T hS hT
  rw [hg, hh, hn, hm, ha, hb] at key
  have HS := Lib.hid hS
  have HT := Lib.hid hT
  have HG := Lib.hid hg
  have HH := Lib.hid hh
  have HN := Lib.hid hn
  have HM := Lib.hid hm
  clear hS hT hg hh hn hm ha hb
  go_enter Try.func7, Try.ntmps7
  go_wp2_with fail
  go_region
  go_wp2_with fail
  refine (stamped_to a0 a2 g n _ S _ hsa HG HN h0 HS).mono ?_
  rintro e w1 ⟨rfl, hb1⟩
  go_wp2_with fail
  refine (stamped_to a1 a3 h m _ T _ hsb HH HM h1 HT).mono ?_
  rintro e w2 ⟨rfl, hb2⟩
  go_wp2_with (go_at_call 25; refine (alive03_any _).mono ?_; rintro e w3 ⟨rfl, hb3⟩)
  all_goals
    go_ret
    refine ⟨ret_bool (by first | rfl | simp [*]), ?_⟩
    repeat (first | exact Below.refl _ _ | assumption | refine bel ?_ (by assumption) | apply Below.drew)
theorem SealApart_walk (a0 a1 a2 a3 : Int) (a4 a5 : ByteArray) (w : World) (h0 : (Lit.int .i64 a0).wf = true) (h1 : (Lit.int .i64 a1).wf = true) (h2 : (Lit.int .i64 a2).wf = true) (h3 : (Lit.int .i64 a3).wf = true) (h4 : a4.size ≤ maxLen) (h5 : a5.size ≤ maxLen) :
    Calls Try.prog 7 #[.int .i64 a0, .int .i64 a1, .int .i64 a2, .int .i64 a3, .string a4, .string a5] w fun e w' => e = .returned (.bool true) ∧ Below w.heap.size w w' := by
  rcases Nat.lt_or_ge 96 a4.size with c4 | c4 <;> rcases Nat.lt_or_ge 96 a5.size with c5 | c5
  · exact apart_n4 a0 a1 a2 a3 a4 a5 w h0 h1 h2 h3 h4 h5 c4 c5
  · exact apart_n3 a0 a1 a2 a3 a4 a5 w h0 h1 h2 h3 h4 h5 c4 c5
  · exact apart_n2 a0 a1 a2 a3 a4 a5 w h0 h1 h2 h3 h4 h5 c4 c5
  · exact apart_n1 a0 a1 a2 a3 a4 a5 w h0 h1 h2 h3 h4 h5 c4 c5
end Go.Proofs.Ytpccdlpkaflioaa
