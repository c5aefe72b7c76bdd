/- Contracts of the functions of layer 3 (seal). -/
import Derived.Test.YtpccdlpkaflioaaC01
import Derived.Test.YtpccdlpkaflioaaC02
import Derived.Test.YtpccdlpkaflioaaM04
import Derived.Deep.RegionWith
import Derived.Deep.RegionLaw
import Derived.BigQuiet
import Derived.Deep.QuietTactic
set_option linter.unusedVariables false
set_option linter.unusedSimpArgs false
namespace Go.Proofs.Ytpccdlpkaflioaa
open Go.RowKit
theorem isStamp_any (gen no : Int) (w : World) :
    Calls Try.prog 47 #[.int .i64 gen, .int .i64 no] w fun e w' => e = .returned (.bool (stampB gen no)) ∧ w = w' := by
  go_enter Try.func47, Try.ntmps47
  go_wp2
  all_goals
    go_ret
    refine ⟨ret_bool ?_, rfl⟩
    unfold stampB
    rw [Bool.eq_iff_iff]
    simp
    omega
theorem seal_ok (gen no : Int) (p : ByteArray) (w : World) (hst : stampB gen no = true) (hp : p.size ≤ 96) :
    Calls Try.prog 22 #[.int .i64 gen, .int .i64 no, .string p] w fun e w' => e = .returned (.tuple #[.string ⟨(sealL gen no (bytesOf p)).toArray⟩, .int .i64 0]) ∧ Below w.heap.size w w' := by
  have hs := fun W => isStamp_any gen no W
  rw [hst] at hs
  have HS := Lib.hid hs
  clear hs hst
  have hal : ∀ W : World, (Instr.alloc 69 true (.tuple #[])).run Try.prog W = .ok (.pointer (some ⟨W.heap.size, 0, none⟩)) (W.alloc (.cells (Lib.byteCells (zeros 128)).toArray 69)) := fun W => by kernel_rfl
  have HA := Lib.hid hal
  clear hal
  obtain ⟨i5, hi5, hs5⟩ : ∃ i, Try.prog.info? 5 = some i ∧ i.size = 1 := by
    have : (Try.prog.info? 5).map (·.size) = some 1 := by kernel_rfl
    exact Option.map_eq_some_iff.1 this
  have HI := Lib.hid hi5
  have HZ := Lib.hid hs5
  clear hi5 hs5
  have hpl : (bytesOf p).length = p.size := len_data p
  obtain ⟨hd, hhd⟩ : ∃ hd : List UInt8, hd = [u8 gen, u8 no, u8 p.size] := ⟨_, rfl⟩
  have hlen : hd.length = 3 := by rw [hhd]; rfl
  have hcells : Lib.byteCells hd = #[Value.int .u8 (gen % 256), .int .u8 (no % 256), .int .u8 p.size].toList := by
    rw [hhd]
    simp only [Lib.byteCells, List.map_cons, List.map_nil, u8_toNat, List.toList_toArray]
    rw [show (p.size : Int) % 256 = p.size by omega]
  have HC := Lib.hid hcells
  clear hcells
  have htake : hd.take 2 = stampL gen no := by rw [hhd]; rfl
  obtain ⟨L3, hL3⟩ : ∃ L3, L3 = splice (splice (zeros 128) 0 hd) 3 (bytesOf p) := ⟨_, rfl⟩
  have hH : hd ++ (bytesOf p ++ zeros (96 - (bytesOf p).length)) = headL gen no (bytesOf p) := by
    rw [hhd, headL, hpl]
    rfl
  have hHl := headL_len gen no (bytesOf p) (by omega)
  have f3 : L3 = headL gen no (bytesOf p) ++ (zeros 27 ++ zeros 2) := by rw [hL3, fill_one hd hlen, fill_two hd _ hlen (by omega), hH]
  obtain ⟨L4, hL4⟩ : ∃ L4, L4 = splice L3 126 (hd.take 2) := ⟨_, rfl⟩
  have f4 : L4 = headL gen no (bytesOf p) ++ (zeros 4 ++ (zeros 23 ++ stampL gen no)) := by rw [hL4, f3, htake, fill_three _ _ hHl rfl]
  obtain ⟨T, hT⟩ : ∃ T : ByteArray, T = ByteArray.mk ((L4.drop 0).take 99).toArray := ⟨_, rfl⟩
  have hTe : T.data.toList = headL gen no (bytesOf p) := by
    rw [hT, f4, List.drop_zero, List.take_left' hHl]
  have hmx : T.size ≤ maxLen := by
    rw [← len_data, hTe, hHl]
    decide
  have HT1 := Lib.hid hT
  have HTE := Lib.hid hTe
  have HL3 := Lib.hid hL3
  have HL4 := Lib.hid hL4
  have HL := Lib.hid hlen
  have HT2 := Lib.hid (show (hd.take 2).length = Nat.min 2 2 by rw [List.length_take, hlen]; rfl)
  have HSRC : Hid (∀ j, j < (hd.take 2).length → L3[0 + j]? = (hd.take 2)[j]?) := by
    intro j hj
    rw [List.length_take, hlen] at hj
    rw [hL3, fill_one hd hlen, fill_two hd _ hlen (by omega), Nat.zero_add, List.append_assoc, List.getElem?_append_left (by omega), List.getElem?_take, if_pos (by omega)]
  have hl3 : L3.length = 128 := by rw [f3]; simp [hHl, zeros_len]
  have HF : Hid (126 + (hd.take 2).length ≤ L3.length) := by
    show 126 + (hd.take 2).length ≤ L3.length
    rw [hl3, htake]
    exact Nat.le_refl 128
  have hl4 : L4.length = 128 := by rw [f4]; simp [hHl, zeros_len, stampL]
  have HF4 : Hid (0 + 99 ≤ L4.length) := by
    show 0 + 99 ≤ L4.length
    omega
  have HF5 : Hid (∀ x, 99 + min (ByteArray.mk (crcFour x).toArray).size 4 ≤ L4.length) := by
    intro x
    omega
  have HE1 := Lib.hid (show (splice (zeros 128) 0 hd).length = 128 by rw [fill_one hd hlen]; simp [hlen, zeros_len])
  have HHD := Lib.hid hHl
  have F4 := Lib.hid f4
  have HPL := Lib.hid hpl
  clear hhd hlen htake hL3 hH hHl f3 hL4 f4 hT hTe hl3 hl4 hpl
  go_enter Try.func22, Try.ntmps22
  go_wp2_with (first
    | (go_at_call 47; refine (HS.out _).mono ?_; rintro e w' ⟨rfl, rfl⟩)
    | (with_reducible refine ev_alloc 8 rfl rfl 128 rfl HA.out ?_; intro W1 g1 hg1 hz1 HB1 hbel1)
    | (at_builtin; refine ev_append_in rfl (.tmp 19) (.tmp 27) 25 5 rfl i5 Try.underlying25 HI.out HZ.out 0 0 99 ⟨W1.heap.size, 0, none⟩ hd 3 3 HL.out.symm rfl rfl (blk_alloc _ HB1.out) (lit_src W1 _ _ _ HC.out) (by rw [HL.out]; decide) (by rw [HL.out, zeros_len]; decide) ?_; intro W2 HB2 hgr2)
    | (refine ev_copy_str (o := ⟨some 31, _, _, _, _, _⟩) rfl (.tmp 29) (.tmp 30) 25 9 rfl 5 Try.underlying25 (by kernel_rfl) 3 96 96 p rfl rfl HB2.out (by rw [HE1.out]; omega) ?_; intro W3 HB3 hgr3))
  have HB3' : Hid (Bts W3 g1 69 L3) := by
    have := HB3.out
    rw [List.take_of_length_le (by rw [HPL.out]; omega)] at this
    rw [HL3.out]
    exact this
  have hb2 : Below w.heap.size w W2 := grown_below (bal hbel1 _) hgr2 (by simp; omega) hg1
  have hb3 : Below w.heap.size w W3 := grown_below hb2 hgr3 hb2.size hg1
  have HB2' := Lib.hid hb3
  clear HB3 HB2 HB1 hgr2 hgr3 hb2 hb3 hbel1 hz1
  go_region_law (refine st_copy_bytes rfl (.tmp 32) (.tmp 34) 25 25 rfl 5 Try.underlying25 (by kernel_rfl) 126 2 2 ⟨g1, 0, none⟩ 2 99 (hd.take 2) rfl rfl HT2.out HB3'.out.drew (Bts.src HB3'.out.drew 0 _ HSRC.out) HF.out ?_; intro W4 HB4 hgr4)
  go_wp2_with fail
  have HB5 := name4 HB4.out HL4.out
  have hrt := run_text (P := Try.prog) Try.underlying25 Try.underlying5 Try.underlying9 HB5.out.drew 0 99 128 HF4.out
  have hb4 : Below w.heap.size w W4 := grown_below HB2'.out.drew hgr4 (by have := HB2'.out.size; exact this) hg1
  have HB6 := Lib.hid hb4
  rw [← HT1.out] at hrt
  clear HB4 hgr4 hb4 HB2' HB3'
  go_region_law (first
    | (refine st_copy_str rfl (.tmp 36) (.tmp 40) 25 9 rfl 5 Try.underlying25 (by kernel_rfl) 99 4 4 _ rfl rfl ((HB5.out.drew.below hb5).below hb6) (HF5.out _) ?_; intro W7 HB7 hgr7)
    | (go_simp; go_at_call 15; refine (sum_any _ _ hmx).mono ?_; rintro e w5 ⟨rfl, hb5⟩)
    | (go_simp; go_at_call 19; refine (four_any _ _).mono ?_; rintro e w6 ⟨rfl, hb6⟩))
  have HB8 : Hid (Bts W7 g1 69 (sealL gen no (bytesOf p))) := by
    have h := HB7.out
    have e1 : List.take (min (ByteArray.mk (crcFour (crcMore 0 T.data.toList)).toArray).size 4) (bytesOf (ByteArray.mk (crcFour (crcMore 0 T.data.toList)).toArray)) = crcFour (crcMore 0 (headL gen no (bytesOf p))) := by
      rw [HTE.out]
      rfl
    rw [e1, F4.out, fill_four _ _ _ HHD.out rfl] at h
    exact h
  have hseal : (sealL gen no (bytesOf p)).length = 128 := sealL_len _ _ _ (by rw [HPL.out]; exact hp)
  have hrt2 := run_text (P := Try.prog) Try.underlying25 Try.underlying5 Try.underlying9 HB8.out 0 128 128 (by omega)
  rw [List.drop_zero, List.take_of_length_le (by omega)] at hrt2
  have hb7 : Below w.heap.size w W7 := grown_below (bels (bels HB6.out.drew HB6.out.size hb5) (by have := HB6.out.size; have := hb5.size; simp at this; omega) hb6) hgr7 (by have := HB6.out.size; have := hb5.size; have := hb6.size; simp at *; omega) hg1
  have HB9 := Lib.hid hb7
  clear hrt hb5 hb6 hgr7 hb7 hseal
  go_wp2
  go_ret2
  exact ⟨rfl, HB9.out⟩
theorem seal_any (gen no : Int) (p : ByteArray) (w : World) :
    Calls Try.prog 22 #[.int .i64 gen, .int .i64 no, .string p] w fun e w' => e = .returned (.tuple #[.string (sealS gen no p), .int .i64 (sealE gen no p)]) ∧ Below w.heap.size w w' := by
  cases hst : stampB gen no
  · have e1 : sealS gen no p = ⟨#[]⟩ := by unfold sealS; rw [hst, if_neg (by simp)]
    have e2 : sealE gen no p = 1 := by unfold sealE; rw [hst, if_pos rfl]
    rw [e1, e2]
    have hs := fun W => isStamp_any gen no W
    rw [hst] at hs
    have HS := Lib.hid hs
    clear hs hst e1 e2
    go_enter Try.func22, Try.ntmps22
    go_wp2_with (go_at_call 47; refine (HS.out _).mono ?_; rintro e w' ⟨rfl, rfl⟩)
    go_ret2
    exact ⟨rfl, Below.refl _ _⟩
  · by_cases hp : p.size ≤ 96
    · have e1 : sealS gen no p = ⟨(sealL gen no (bytesOf p)).toArray⟩ := by unfold sealS; rw [if_pos ⟨hst, hp⟩]
      have e2 : sealE gen no p = 0 := by unfold sealE; rw [hst, if_neg (by simp), if_pos hp]
      rw [e1, e2]
      exact seal_ok gen no p w hst hp
    · have e1 : sealS gen no p = ⟨#[]⟩ := by unfold sealS; rw [if_neg (by omega)]
      have e2 : sealE gen no p = 2 := by unfold sealE; rw [hst, if_neg (by simp), if_neg hp]
      rw [e1, e2]
      have hs := fun W => isStamp_any gen no W
      rw [hst] at hs
      have HS := Lib.hid hs
      have hp' : 96 < p.size := by omega
      clear hs hst e1 e2 hp
      go_enter Try.func22, Try.ntmps22
      go_wp2_with (go_at_call 47; refine (HS.out _).mono ?_; rintro e w' ⟨rfl, rfl⟩)
      go_ret2
      exact ⟨rfl, Below.refl _ _⟩
end Go.Proofs.Ytpccdlpkaflioaa
