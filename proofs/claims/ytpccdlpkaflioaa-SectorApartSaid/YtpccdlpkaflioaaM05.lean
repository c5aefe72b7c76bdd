/- Plain laws on sealed sectors: what is sealed is opened as it was; what is opened is sealed as it was; torn ones. No program in sight. -/
import Derived.Test.YtpccdlpkaflioaaM04
set_option linter.unusedVariables false
set_option linter.unusedSimpArgs false
namespace Go.Proofs.Ytpccdlpkaflioaa
open Go.RowKit
theorem ext_list (s : ByteArray) (a b : Nat) : (s.extract a b).data.toList = (s.data.toList.drop a).take (b - a) := by
  rw [ByteArray.data_extract, Array.toList_extract]
theorem bytes_ext {a b : ByteArray} (h : a.data.toList = b.data.toList) : a = b := by
  apply ByteArray.ext
  exact Array.toList_inj.1 h
theorem mk_list (l : List UInt8) : (ByteArray.mk l.toArray).data.toList = l := rfl
theorem mk_size (l : List UInt8) : (ByteArray.mk l.toArray).size = l.length := List.size_toArray
theorem stampB_iff (gen no : Int) : stampB gen no = true ↔ (1 ≤ gen ∧ gen ≤ 250) ∧ 0 ≤ no ∧ no ≤ 64 := by
  unfold stampB
  simp
  omega
theorem u8_small {x : Int} (h0 : 0 ≤ x) (h1 : x < 256) : ((u8 x).toNat : Int) = x := by
  rw [u8_toNat]
  omega
theorem u8_inj {x y : Int} (hx : 0 ≤ x ∧ x < 256) (hy : 0 ≤ y ∧ y < 256) (h : u8 x = u8 y) : x = y := by
  rw [← u8_small hx.1 hx.2, h, u8_small hy.1 hy.2]
theorem stampL_inj {g n h m : Int} (hs : stampB g n = true) (ht : stampB h m = true) (e : stampL g n = stampL h m) : g = h ∧ n = m := by
  rw [stampB_iff] at hs ht
  simp only [stampL, List.cons.injEq, and_true] at e
  exact ⟨u8_inj (by omega) (by omega) e.1, u8_inj (by omega) (by omega) e.2⟩
theorem headL_eq (gen no : Int) (p : List UInt8) : headL gen no p = u8 gen :: u8 no :: u8 p.length :: (p ++ zeros (96 - p.length)) := rfl
theorem sealL_tail (gen no : Int) (p : List UInt8) (h : p.length ≤ 96) : (sealL gen no p).drop 126 = stampL gen no := by
  unfold sealL
  rw [show 126 = (headL gen no p).length + 27 by rw [headL_len gen no p h], List.drop_length_add_append, show 27 = (crcFour (crcMore 0 (headL gen no p))).length + 23 by rfl, List.drop_length_add_append, List.drop_left' (zeros_len 23)]
theorem sealL_two (gen no : Int) (p : List UInt8) : (sealL gen no p).take 2 = stampL gen no := rfl
theorem sealL_head (gen no : Int) (p : List UInt8) (h : p.length ≤ 96) : (sealL gen no p).take 99 = headL gen no p := by
  unfold sealL
  rw [List.take_left' (headL_len gen no p h)]
theorem sealL_sum (gen no : Int) (p : List UInt8) (h : p.length ≤ 96) : ((sealL gen no p).drop 99).take 4 = crcFour (crcMore 0 (headL gen no p)) := by
  unfold sealL
  rw [List.drop_left' (headL_len gen no p h), List.take_left' (crcFour_len _)]
theorem beq_toList {a b : ByteArray} (h : a.data.toList = b.data.toList) : (a.toList == b.toList) = true := by
  rw [ByteArray.toList_eq, ByteArray.toList_eq, h]
  simp
theorem beq_toList_iff {a b : ByteArray} : (a.toList == b.toList) = true ↔ a = b := ⟨bytes_of_eq, fun h => by rw [h]; exact bytes_eq_self b⟩
theorem opened (gen no : Int) (p : ByteArray) (hst : stampB gen no = true) (hp : p.size ≤ 96) (x : ByteArray) (hx : x = ⟨(sealL gen no (bytesOf p)).toArray⟩) :
    x.size = 128 ∧ openE x = 0 ∧ at8 x 0 = gen ∧ at8 x 1 = no ∧ partP x = p := by
  have hpl : (bytesOf p).length = p.size := len_data p
  have hpl' : (bytesOf p).length ≤ 96 := by omega
  have hr := (stampB_iff gen no).1 hst
  have hxl : x.data.toList = sealL gen no (bytesOf p) := by rw [hx]
  have hsz : x.size = 128 := by rw [← len_data, hxl, sealL_len _ _ _ hpl']
  have ha0 : at8 x 0 = gen := by
    unfold at8
    rw [hxl]
    show ((u8 gen).toNat : Int) = gen
    exact u8_small (by omega) (by omega)
  have ha1 : at8 x 1 = no := by
    unfold at8
    rw [hxl]
    show ((u8 no).toNat : Int) = no
    exact u8_small (by omega) (by omega)
  have ha2 : at8 x 2 = p.size := by
    unfold at8
    rw [hxl]
    show ((u8 (bytesOf p).length).toNat : Int) = p.size
    rw [hpl]
    exact u8_small (by omega) (by omega)
  have hpp : partP x = p := by
    apply bytes_ext
    unfold partP
    rw [ext_list, hxl, ha2]
    have e : (sealL gen no (bytesOf p)).drop 3 = bytesOf p ++ (zeros (96 - (bytesOf p).length) ++ (crcFour (crcMore 0 (headL gen no (bytesOf p))) ++ (zeros 23 ++ stampL gen no))) := by
      unfold sealL
      rw [headL_eq]
      simp
    rw [e, List.take_left' (by rw [hpl]; omega)]
    rfl
  have hA : openA x = true := by
    unfold openA
    apply beq_toList
    rw [ext_list, ext_list, hxl, sealL_tail _ _ _ hpl']
    show (sealL gen no (bytesOf p)).take 2 = List.take 2 (stampL gen no)
    rw [sealL_two]
    rfl
  have hB : openB x = true := by
    unfold openB
    rw [ByteArray.toList_eq, ext_list, hxl, sealL_head _ _ _ hpl', show 103 - 99 = 4 from rfl, sealL_sum _ _ _ hpl']
    simp
  have hE : openE x = 0 := by
    unfold openE
    rw [if_neg (by simp [hsz]), if_neg (by simp [hA]), if_neg (by simp [hB]), if_neg (by omega), ha0, ha1, hpp, if_pos]
    refine ⟨?_, ?_⟩
    · unfold sealE
      rw [hst, if_neg (by simp), if_pos hp]
    · unfold sealS
      rw [if_pos ⟨hst, hp⟩, hx]
  exact ⟨hsz, hE, ha0, ha1, hpp⟩
theorem openE_zero {x : ByteArray} (h : openE x = 0) : x.size = 128 ∧ stampB (at8 x 0) (at8 x 1) = true ∧ (partP x).size ≤ 96 ∧ x = ⟨(sealL (at8 x 0) (at8 x 1) (bytesOf (partP x))).toArray⟩ := by
  unfold openE at h
  split at h
  · omega
  · rename_i h1
    split at h
    · omega
    · split at h
      · omega
      · split at h
        · omega
        · split at h
          · rename_i h5
            obtain ⟨h6, h7⟩ := h5
            have hst : stampB (at8 x 0) (at8 x 1) = true := by
              cases hs : stampB (at8 x 0) (at8 x 1)
              · unfold sealE at h6
                rw [if_pos hs] at h6
                omega
              · rfl
            have hp : (partP x).size ≤ 96 := by
              unfold sealE at h6
              rw [if_neg (by simp [hst])] at h6
              split at h6
              · assumption
              · omega
            refine ⟨by simpa using h1, hst, hp, ?_⟩
            unfold sealS at h7
            rw [if_pos ⟨hst, hp⟩] at h7
            exact h7.symm
          · omega
theorem sealL_inj {g n h m : Int} {p q : ByteArray} (hs : stampB g n = true) (ht : stampB h m = true) (hp : p.size ≤ 96) (hq : q.size ≤ 96) (e : sealL g n (bytesOf p) = sealL h m (bytesOf q)) : g = h ∧ n = m ∧ p = q := by
  obtain ⟨_, _, a0, a1, a2⟩ := opened g n p hs hp _ rfl
  obtain ⟨_, _, b0, b1, b2⟩ := opened h m q ht hq _ rfl
  rw [e] at a0 a1 a2
  exact ⟨a0.symm.trans b0, a1.symm.trans b1, a2.symm.trans b2⟩
end Go.Proofs.Ytpccdlpkaflioaa
