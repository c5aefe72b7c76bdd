/- Plain laws on torn sealed sectors. No program in sight. -/
import Derived.Test.YtpccdlpkaflioaaM05
import Derived.Test.YtpccdlpkaflioaaM02
set_option linter.unusedVariables false
set_option linter.unusedSimpArgs false
namespace Go.Proofs.Ytpccdlpkaflioaa
open Go.RowKit
theorem over_list (x t : ByteArray) (k : Nat) : (over x t k).data.toList = t.data.toList.take k ++ x.data.toList.drop k := rfl
theorem over_same (x t : ByteArray) (k : Nat) (h : x.data.toList.drop k = t.data.toList.drop k) : over x t k = t := by
  apply bytes_ext
  rw [over_list, h, List.take_append_drop]
theorem over_zero (x t : ByteArray) : over x t 0 = x := by
  apply bytes_ext
  rw [over_list]
  simp
theorem over_late (x t : ByteArray) (k : Nat) (ht : t.size = 128) (hk : k ≤ 126) : (over x t k).data.toList.drop 126 = x.data.toList.drop 126 := by
  have hl : (t.data.toList.take k).length = k := by rw [List.length_take, len_data]; omega
  rw [over_list, List.drop_append, hl, List.drop_of_length_le (by omega), List.nil_append, List.drop_drop, show k + (126 - k) = 126 by omega]
theorem over_first (x t : ByteArray) (k : Nat) (ht : t.size = 128) (hk : 1 ≤ k) : at8 (over x t k) 0 = at8 t 0 := by
  have hl : (t.data.toList.take k).length = min k 128 := by rw [List.length_take, len_data, ht]
  unfold at8
  rw [over_list, List.getD_eq_getElem?_getD, List.getD_eq_getElem?_getD, List.getElem?_append_left (by omega), List.getElem?_take_of_lt (by omega)]
theorem openE_ends {x : ByteArray} (h : openE x = 0) : x.data.toList.drop 126 = stampL (at8 x 0) (at8 x 1) := by
  obtain ⟨h1, h2, h3, h4⟩ := openE_zero h
  have : x.data.toList = sealL (at8 x 0) (at8 x 1) (bytesOf (partP x)) := congrArg (fun y : ByteArray => y.data.toList) h4
  rw [this]
  exact sealL_tail _ _ _ (by rw [show (bytesOf (partP x)).length = (partP x).size from len_data _]; exact h3)
/-- What is known of a sealed sector. -/
structure Sealed (x : ByteArray) (g n : Int) : Prop where
  size : x.size = 128
  stamp : stampB g n = true
  opens : openE x = 0
  first : at8 x 0 = g
  second : at8 x 1 = n
theorem sealed_of (gen no : Int) (p : ByteArray) (hst : stampB gen no = true) (hp : p.size ≤ 96) (x : ByteArray) (hx : x = ⟨(sealL gen no (bytesOf p)).toArray⟩) : Sealed x gen no := by
  obtain ⟨h1, h2, h3, h4, _⟩ := opened gen no p hst hp x hx
  exact ⟨h1, hst, h2, h3, h4⟩
theorem Sealed.tail {x : ByteArray} {g n : Int} (h : Sealed x g n) : x.data.toList.drop 126 = stampL g n := by
  have := openE_ends h.opens
  rwa [h.first, h.second] at this
theorem drop127 {x : List UInt8} {g n : Int} (h : x.drop 126 = stampL g n) : x.drop 127 = [u8 n] := by
  have : x.drop 127 = (x.drop 126).drop 1 := by rw [List.drop_drop]
  rw [this, h]
  rfl
theorem at8_one {x y : ByteArray} (h : x.data.toList.drop 126 = stampL (at8 x 0) (at8 x 1)) {g n : Int} (h2 : x.data.toList.drop 126 = stampL g n) (hg : 0 ≤ g ∧ g < 256) : at8 x 0 = g := by
  rw [h] at h2
  simp only [stampL, List.cons.injEq] at h2
  exact u8_inj (at8_range x 0) hg h2.1
/-- The late part of a tear whose numbers are one: all of it. -/
theorem over_whole {X V : ByteArray} {g h n : Int} (hX : X.size = 128) (ht : X.data.toList.drop 126 = stampL g n) (hV : Sealed V h n) (k : Nat) (hk : 127 ≤ k) (hk2 : k ≤ 128) : over X V k = V := by
  apply over_same
  rcases Nat.lt_or_ge 127 k with c | c
  · rw [List.drop_of_length_le (by rw [len_data]; omega), List.drop_of_length_le (by rw [len_data, hV.size]; omega)]
  · rw [show k = 127 by omega, drop127 ht, drop127 hV.tail]
/-- An early tear is not opened. -/
theorem over_early {X V u : ByteArray} {g h n : Int} (ht : X.data.toList.drop 126 = stampL g n) (hg : 0 ≤ g ∧ g < 256) (hV : Sealed V h n) (k : Nat) (hk : k ≤ 126) (hu : u = over X V k) (h0 : at8 u 0 = h) (hgh : g ≠ h) : openE u ≠ 0 ∧ u ≠ V := by
  have hl := over_late X V k hV.size hk
  rw [← hu, ht] at hl
  constructor
  · intro h1
    have h2 := at8_one (y := u) (openE_ends h1) hl hg
    omega
  · intro h1
    rw [h1, hV.tail] at hl
    simp only [stampL, List.cons.injEq] at hl
    have hr := (stampB_iff _ _).1 hV.stamp
    exact hgh (u8_inj hg (by omega) hl.1.symm)
theorem torn_two {S T t : ByteArray} {g h n : Int} (hS : Sealed S g n) (hT : Sealed T h n) (hgh : g ≠ h) (k : Nat) (hk : k ≤ 128) (ht : t = over S T k) :
    (openE t = 0 ∧ t = S) ∨ (openE t = 0 ∧ t ≠ S ∧ t = T) ∨ (openE t ≠ 0 ∧ t ≠ S ∧ t ≠ T ∧ 1 ≤ k ∧ k ≤ 126) := by
  have hr := (stampB_iff _ _).1 hS.stamp
  rcases Nat.lt_or_ge 0 k with c | c
  · rcases Nat.lt_or_ge 126 k with d | d
    · have h1 : t = T := by rw [ht]; exact over_whole hS.size hS.tail hT k (by omega) hk
      refine .inr (.inl ⟨by rw [h1]; exact hT.opens, ?_, h1⟩)
      intro h2
      have h3 := hT.first
      rw [← h1, h2, hS.first] at h3
      exact hgh h3
    · have h0 : at8 t 0 = h := by rw [ht, over_first S T k hT.size (by omega)]; exact hT.first
      obtain ⟨h1, h2⟩ := over_early hS.tail (by omega) hT k d ht h0 hgh
      refine .inr (.inr ⟨h1, ?_, h2, by omega, d⟩)
      intro h3
      rw [h3, hS.first] at h0
      exact hgh h0
  · have h1 : t = S := by rw [ht, show k = 0 by omega]; exact over_zero S T
    exact .inl ⟨by rw [h1]; exact hS.opens, h1⟩
theorem torn_other {X T u : ByteArray} {h n : Int} (hX : X.size = 128) (hT : Sealed T h n) (k : Nat) (hk : k ≤ 128) (hu : u = over X T k) :
    X.extract 126 128 = T.extract 126 128 ∨ openE u ≠ 0 ∨ u = T ∨ openG u ≠ h ∨ openN u ≠ n := by
  by_cases h1 : openE u = 0
  · by_cases h2 : openG u = h
    · by_cases h3 : openN u = n
      · have h4 := openE_ends h1
        unfold openG at h2
        unfold openN at h3
        rw [if_pos h1] at h2 h3
        rw [h2, h3] at h4
        have hus : u.size = 128 := (openE_zero h1).1
        rcases Nat.lt_or_ge 126 k with d | d
        · right; right; left
          have h5 : u.data.toList = T.data.toList := by
            have h6 : u.data.toList.take 127 = T.data.toList.take 127 := by
              rw [hu, over_list, List.take_append_of_le_length (by rw [List.length_take, len_data, hT.size]; omega), List.take_take, Nat.min_eq_left (by omega)]
            rw [← List.take_append_drop 127 u.data.toList, ← List.take_append_drop 127 T.data.toList, h6, drop127 h4, drop127 hT.tail]
          exact bytes_ext h5
        · left
          apply bytes_ext
          rw [ext_list, ext_list]
          have hl := over_late X T k hT.size d
          rw [← hu, h4, ← hT.tail] at hl
          rw [← hl]
      · exact .inr (.inr (.inr (.inr h3)))
    · exact .inr (.inr (.inr (.inl h2)))
  · exact .inr (.inl h1)
theorem torn_again {S T V t u : ByteArray} {g h n : Int} (hS : Sealed S g n) (hT : Sealed T h n) (hV : Sealed V h n) (hgh : g ≠ h) (k m : Nat) (hk : k ≤ 128) (hm : m ≤ 128) (ht : t = over S T k) (hu : u = over t V m) :
    openE t = 0 ∨ (openE t ≠ 0 ∧ openE u = 0 ∧ u = V) ∨ (openE t ≠ 0 ∧ openE u ≠ 0 ∧ u ≠ V) := by
  have hr := (stampB_iff _ _).1 hS.stamp
  rcases torn_two hS hT hgh k hk ht with ⟨h1, _⟩ | ⟨h1, _⟩ | ⟨h1, h2, h3, h4, h5⟩
  · exact .inl h1
  · exact .inl h1
  · have htail : t.data.toList.drop 126 = stampL g n := by
      rw [ht, over_late S T k hT.size h5]
      exact hS.tail
    have hts : t.size = 128 := by
      rw [← len_data, ht, over_list, List.length_append, List.length_take, List.length_drop, len_data, len_data, hS.size, hT.size]
      omega
    have hfirst : at8 t 0 = h := by rw [ht, over_first S T k hT.size h4]; exact hT.first
    rcases Nat.lt_or_ge 126 m with d | d
    · have h6 : u = V := by rw [hu]; exact over_whole hts htail hV m (by omega) hm
      exact .inr (.inl ⟨h1, by rw [h6]; exact hV.opens, h6⟩)
    · have h0 : at8 u 0 = h := by
        rcases Nat.lt_or_ge 0 m with c | c
        · rw [hu, over_first t V m hV.size (by omega)]; exact hV.first
        · rw [hu, show m = 0 by omega, over_zero]; exact hfirst
      obtain ⟨h6, h7⟩ := over_early htail (by omega) hV m d hu h0 hgh
      exact .inr (.inr ⟨h1, h6, h7⟩)
end Go.Proofs.Ytpccdlpkaflioaa
