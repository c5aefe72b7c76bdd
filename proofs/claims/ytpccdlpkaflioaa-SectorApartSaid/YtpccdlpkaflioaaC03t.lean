/- Contract of seal.Torn. -/
import Derived.Test.YtpccdlpkaflioaaC02d
set_option linter.unusedVariables false
set_option linter.unusedSimpArgs false
namespace Go.Proofs.Ytpccdlpkaflioaa
open Go.RowKit
theorem torn_ok (x t : ByteArray) (k : Int) (w : World) (hx : x.size = 128) (h0 : tornE x t k = 0) (h1 : t.size = 128) (hk0 : 0 ≤ k) (hk1 : k ≤ 128) :
    Calls Try.prog 43 #[.string x, .string t, .int .i64 k] w fun e w' => e = .returned (.tuple #[.string (over x t k.toNat), .int .i64 0]) ∧ Below w.heap.size w w' := by
  have hnew := fun W => new_any 10 W
  rw [new10.1, new10.2] at hnew
  have hwrite := fun v W h => write_any v (disk10 z128) 0 x W h
  rw [(disk10_write x hx).1, (disk10_write x hx).2] at hwrite
  have htear := fun v W h => tear_any v (disk10 x) 0 t k W h
  rw [(disk10_tear x t k hx).1, h0, (disk10_tear x t k hx).2 h0] at htear
  obtain ⟨y, hy⟩ : ∃ y, y = over x t k.toNat := ⟨_, rfl⟩
  have hys : y.size = 128 := by rw [hy]; exact over_size x t _ hx h1 (by omega)
  rw [← hy] at htear ⊢
  have hread := fun v W h => read_any v (disk10 y) 0 W h
  rw [disk10_read y hys, disk10_may y hys] at hread
  obtain ⟨D0, hD0⟩ : ∃ D, D = disk10 z128 := ⟨_, rfl⟩
  obtain ⟨D1, hD1⟩ : ∃ D, D = disk10 x := ⟨_, rfl⟩
  obtain ⟨D2, hD2⟩ : ∃ D, D = disk10 y := ⟨_, rfl⟩
  rw [← hD0] at hnew hwrite
  rw [← hD1] at hwrite htear
  rw [← hD2] at htear hread
  have HN := Lib.hid hnew
  have HW := Lib.hid hwrite
  have HT := Lib.hid htear
  have HR := Lib.hid hread
  have hxx : x.size = 128 := hx
  clear hnew hwrite htear hread hD0 hD1 hD2 hy hys h0 hx
  go_enter Try.func43, Try.ntmps43
  go_wp2_with fail
  refine (HN.out _).mono ?_
  rintro e w1 ⟨v1, rfl, hs1, hf1, hb1⟩
  obtain ⟨a1, c1, rfl, hn1, hm1⟩ := hs1.form
  go_wp2_with fail
  refine (HW.out _ _ (hs1.alloc _)).mono ?_
  rintro e w2 ⟨v2, rfl, hs2, hf2, hb2⟩
  obtain ⟨a2, c2, rfl, hn2, hm2⟩ := hs2.form
  have K2 := Lib.hid (blk_call hb2 (blk_new w1 _))
  have e2 := blk_cell K2.out (j := 0) rfl
  have f2 := blk_free K2.out 0
  have hne2 : ∀ b, (Value.slice a2 D1.length c2).ownBlock = some b → b ≠ w1.heap.size := fun b hb => by
    have := hf2 b hb
    rw [size_alloc] at this
    omega
  have HNE2 := Lib.hid hne2
  clear hne2
  go_wp2_with fail
  refine (HT.out _ _ (hs2.store HNE2.out _)).mono ?_
  rintro e w3 ⟨v3, rfl, hs3, hf3, hb3⟩
  obtain ⟨a3, c3, rfl, hn3, hm3⟩ := hs3.form
  have K3 := Lib.hid (blk_call hb3 (blk_set K2.out 0 _))
  have e3 := blk_cell K3.out (j := 0) rfl
  have f3 := blk_free K3.out 0
  have hlt2 : w1.heap.size < w2.heap.size := size_lt hb2 (by rw [size_alloc]; omega)
  have hne3 : ∀ b, (Value.slice a3 D2.length c3).ownBlock = some b → b ≠ w1.heap.size := fun b hb => by
    have := hf3 b hb
    simp at this
    omega
  have HNE3 := Lib.hid hne3
  clear hne3
  go_wp2_with fail
  refine (HR.out _ _ (hs3.store HNE3.out _)).mono ?_
  rintro e w4 ⟨rfl, hb4⟩
  go_wp2
  go_ret2
  refine ⟨rfl, ?_⟩
  have h1 := bel (bal hb1 _) hb2
  have h2 := bset h1 (show w.heap.size ≤ (⟨w1.heap.size, 0, none⟩ : Addr).block from hb1.size) (.slice a2 D1.length c2)
  have h3 := bels h2 (by have := h2.size; exact this) hb3
  have h4 := bset h3 (show w.heap.size ≤ (⟨w1.heap.size, 0, none⟩ : Addr).block from hb1.size) (.slice a3 D2.length c3)
  exact bels h4 h4.size hb4
theorem torn_bad1 (x t : ByteArray) (k : Int) (w : World) (hx : x.size ≠ 128) :
    Calls Try.prog 43 #[.string x, .string t, .int .i64 k] w fun e w' => e = .returned (.tuple #[.string ⟨#[]⟩, .int .i64 2]) ∧ Below w.heap.size w w' := by
  have hnew := fun W => new_any 10 W
  rw [new10.1, new10.2] at hnew
  have HN := Lib.hid hnew
  have hne : ((x.size : Int) != 128) = true := by simp; omega
  clear hnew hx
  go_enter Try.func43, Try.ntmps43
  go_wp2_with fail
  refine (HN.out _).mono ?_
  rintro e w1 ⟨v1, rfl, hs1, hf1, hb1⟩
  obtain ⟨a1, c1, rfl, hn1, hm1⟩ := hs1.form
  go_wp2
  go_ret2
  exact ⟨rfl, bal hb1 _⟩
theorem torn_bad2 (x t : ByteArray) (k E : Int) (w : World) (hx : x.size = 128) (hE : tornE x t k = E) (h0 : E ≠ 0) :
    Calls Try.prog 43 #[.string x, .string t, .int .i64 k] w fun e w' => e = .returned (.tuple #[.string ⟨#[]⟩, .int .i64 E]) ∧ Below w.heap.size w w' := by
  have hnew := fun W => new_any 10 W
  rw [new10.1, new10.2] at hnew
  have hwrite := fun v W h => write_any v (disk10 z128) 0 x W h
  rw [(disk10_write x hx).1, (disk10_write x hx).2] at hwrite
  have htear := fun v W h => tear_any v (disk10 x) 0 t k W h
  have hl : tearL (disk10 x) 0 t k = [] := by unfold tearL; rw [(disk10_tear x t k hx).1, hE, if_neg h0]
  rw [(disk10_tear x t k hx).1, hE, hl] at htear
  obtain ⟨D0, hD0⟩ : ∃ D, D = disk10 z128 := ⟨_, rfl⟩
  obtain ⟨D1, hD1⟩ : ∃ D, D = disk10 x := ⟨_, rfl⟩
  rw [← hD0] at hnew hwrite
  rw [← hD1] at hwrite htear
  have HN := Lib.hid hnew
  have HW := Lib.hid hwrite
  have HT := Lib.hid htear
  have hxx : x.size = 128 := hx
  have hne : (E != 0) = true := by simpa using h0
  clear hnew hwrite htear hD0 hD1 hx hE h0 hl
  go_enter Try.func43, Try.ntmps43
  go_wp2_with fail
  refine (HN.out _).mono ?_
  rintro e w1 ⟨v1, rfl, hs1, hf1, hb1⟩
  obtain ⟨a1, c1, rfl, hn1, hm1⟩ := hs1.form
  go_wp2_with fail
  refine (HW.out _ _ (hs1.alloc _)).mono ?_
  rintro e w2 ⟨v2, rfl, hs2, hf2, hb2⟩
  obtain ⟨a2, c2, rfl, hn2, hm2⟩ := hs2.form
  have K2 := Lib.hid (blk_call hb2 (blk_new w1 _))
  have e2 := blk_cell K2.out (j := 0) rfl
  have f2 := blk_free K2.out 0
  have hne2 : ∀ b, (Value.slice a2 D1.length c2).ownBlock = some b → b ≠ w1.heap.size := fun b hb => by
    have := hf2 b hb
    rw [size_alloc] at this
    omega
  have HNE2 := Lib.hid hne2
  clear hne2
  go_wp2_with fail
  refine (HT.out _ _ (hs2.store HNE2.out _)).mono ?_
  rintro e w3 ⟨v3, rfl, hs3, hf3, hb3⟩
  obtain ⟨a3, c3, rfl, hn3, hm3⟩ := hs3.form
  have K3 := Lib.hid (blk_call hb3 (blk_set K2.out 0 _))
  have e3 := blk_cell K3.out (j := 0) rfl
  have f3 := blk_free K3.out 0
  go_wp2
  go_ret2
  refine ⟨rfl, ?_⟩
  have h1 := bel (bal hb1 _) hb2
  have h2 := bset h1 (show w.heap.size ≤ (⟨w1.heap.size, 0, none⟩ : Addr).block from hb1.size) (.slice a2 D1.length c2)
  have h3 := bels h2 (by have := h2.size; exact this) hb3
  exact bset h3 (show w.heap.size ≤ (⟨w1.heap.size, 0, none⟩ : Addr).block from hb1.size) _
theorem torn_any (x t : ByteArray) (k : Int) (w : World) :
    Calls Try.prog 43 #[.string x, .string t, .int .i64 k] w fun e w' => e = .returned (.tuple #[.string (tornS x t k), .int .i64 (tornE x t k)]) ∧ Below w.heap.size w w' := by
  by_cases h0 : tornE x t k = 0
  · have hs : tornS x t k = over x t k.toNat := if_pos h0
    rw [hs, h0]
    have hh := h0
    unfold tornE at hh
    split at hh
    · omega
    · rename_i h1
      split at hh
      · omega
      · rename_i h2
        exact torn_ok x t k w (by omega) h0 (by omega) (by omega) (by omega)
  · have hs : tornS x t k = ⟨#[]⟩ := if_neg h0
    rw [hs]
    by_cases hx : x.size = 128
    · exact torn_bad2 x t k _ w hx rfl h0
    · have he : tornE x t k = 2 := by unfold tornE; rw [if_pos (.inl hx)]
      rw [he]
      exact torn_bad1 x t k w hx
end Go.Proofs.Ytpccdlpkaflioaa
