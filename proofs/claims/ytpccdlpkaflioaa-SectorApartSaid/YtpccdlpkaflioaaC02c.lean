/- Contracts of sector.Tear, Write. -/
import Derived.Test.YtpccdlpkaflioaaC02b
import Derived.Deep.AppendLies
set_option linter.unusedVariables false
set_option linter.unusedSimpArgs false
namespace Go.Proofs.Ytpccdlpkaflioaa
open Go.RowKit
theorem diskRes_bad {w w' : World} {k : Int} (hb : Below w.heap.size w w') : DiskRes w [] k (.returned (.tuple #[.agg #[.slice none 0 0], .int .i64 k])) w' :=
  ⟨_, rfl, SlAt.nil _ _, FreshV.nil _ _ _, hb⟩
theorem tear_bad1 (v : Value) (xs : List ByteArray) (i : Int) (t : ByteArray) (k : Int) (w : World) (hS : SlAt w v 1 xs.length (strs xs)) (h : mayD xs i ≠ 0) :
    Calls Try.prog 33 #[.agg #[v], .int .i64 i, .string t, .int .i64 k] w (DiskRes w [] (mayD xs i)) := by
  obtain ⟨a, c, rfl, hnc, hcm⟩ := hS.form
  have HS := Lib.hid hS
  clear hS
  have hm := fun W (h : SlAt W (Value.slice a xs.length c) 1 xs.length (strs xs)) => may_any _ xs i W h
  obtain ⟨m, hm'⟩ : ∃ m, m = mayD xs i := ⟨_, rfl⟩
  rw [← hm'] at hm h ⊢
  have HM := Lib.hid hm
  have hne : (m != 0) = true := by simpa using h
  clear hm hm' h
  go_enter Try.func33, Try.ntmps33
  go_wp2_with (go_at_call 52; refine (HM.out _ ((HS.out.alloc _).alloc _)).mono ?_; rintro e w1 ⟨rfl, hb1⟩; have K1 := Lib.hid (blk_call hb1 (blk_new2 w _ _)); have e1 := blk_cell K1.out (j := 0) rfl; have e2 := blk_free K1.out 0)
  refine bodyPost_ret (v := .tuple #[.agg #[.slice none 0 0], .int .i64 m]) ?_ rfl ?_
  · simp [results, Try.results33, go_sem, e1]
  · exact diskRes_bad (bset (bel (bal (bal (Below.refl _ _) _) _) hb1) (Nat.le_succ _) _)
theorem tear_bad2 (v : Value) (xs : List ByteArray) (i : Int) (t : ByteArray) (k : Int) (w : World) (hS : SlAt w v 1 xs.length (strs xs)) (h : mayD xs i = 0) (ht : t.size ≠ 128) :
    Calls Try.prog 33 #[.agg #[v], .int .i64 i, .string t, .int .i64 k] w (DiskRes w [] 2) := by
  obtain ⟨a, c, rfl, hnc, hcm⟩ := hS.form
  have HS := Lib.hid hS
  clear hS
  have hm := fun W (h : SlAt W (Value.slice a xs.length c) 1 xs.length (strs xs)) => may_any _ xs i W h
  rw [h] at hm
  have HM := Lib.hid hm
  have hne : ((t.size : Int) != 128) = true := by simp; omega
  clear hm h ht
  go_enter Try.func33, Try.ntmps33
  go_wp2_with (go_at_call 52; refine (HM.out _ ((HS.out.alloc _).alloc _)).mono ?_; rintro e w1 ⟨rfl, hb1⟩; have K1 := Lib.hid (blk_call hb1 (blk_new2 w _ _)); have e1 := blk_cell K1.out (j := 0) rfl; have e2 := blk_free K1.out 0)
  refine bodyPost_ret (v := .tuple #[.agg #[.slice none 0 0], .int .i64 2]) ?_ rfl ?_
  · simp [results, Try.results33, go_sem, e1]
  · exact diskRes_bad (bset (bel (bal (bal (Below.refl _ _) _) _) hb1) (Nat.le_succ _) _)
theorem tear_bad3 (v : Value) (xs : List ByteArray) (i : Int) (t : ByteArray) (k : Int) (w : World) (hS : SlAt w v 1 xs.length (strs xs)) (h : mayD xs i = 0) (ht : t.size = 128) (hk : k < 0 ∨ 128 < k) :
    Calls Try.prog 33 #[.agg #[v], .int .i64 i, .string t, .int .i64 k] w (DiskRes w [] 1) := by
  obtain ⟨a, c, rfl, hnc, hcm⟩ := hS.form
  have HS := Lib.hid hS
  clear hS
  have hm := fun W (h : SlAt W (Value.slice a xs.length c) 1 xs.length (strs xs)) => may_any _ xs i W h
  rw [h] at hm
  have HM := Lib.hid hm
  clear hm h
  by_cases h0 : k < 0
  all_goals
    first | (have h1 : 128 < k := by omega) | skip
    go_enter Try.func33, Try.ntmps33
    go_wp2_with (go_at_call 52; refine (HM.out _ ((HS.out.alloc _).alloc _)).mono ?_; rintro e w1 ⟨rfl, hb1⟩; have K1 := Lib.hid (blk_call hb1 (blk_new2 w _ _)); have e1 := blk_cell K1.out (j := 0) rfl; have e2 := blk_free K1.out 0)
    refine bodyPost_ret (v := .tuple #[.agg #[.slice none 0 0], .int .i64 1]) ?_ rfl ?_
    · simp [results, Try.results33, go_sem, e1]
    · exact diskRes_bad (bset (bel (bal (bal (Below.refl _ _) _) _) hb1) (Nat.le_succ _) _)
theorem cells_getD {W : World} {b o n c : Nat} {xs : List ByteArray} (h : SlAt W (.slice (some ⟨b, o, none⟩) n c) 1 n (strs xs)) : ∀ j, j < xs.length → W.cell? ⟨b, o + j, none⟩ = some (.string (xs.getD j ByteArray.empty)) := by
  intro j hj
  have hl := h.1
  rw [strs_len] at hl
  obtain ⟨b', o', e, _, hc⟩ := h.at (by omega)
  injection e with e
  injection e with e1 e2
  subst e1 e2
  have := hc j _ (strs_get xs j hj)
  rw [this, List.getD_eq_getElem?_getD, List.getElem?_eq_getElem hj]
  rfl
theorem cell_own {W : World} {B e g n cap i : Nat} {xs : List ByteArray} (h : W.ownsRow B e 1 (.slice (some ⟨g, 0, none⟩) n cap) n ((xs.take n).map Value.string)) (hi : i < xs.length) (hn : n = xs.length := by rfl) : W.cell? ⟨g, i, none⟩ = some (.string xs[i]) := by
  rw [h.cellAt i (by omega), List.getElem?_map, List.getElem?_take, if_pos (by omega), List.getElem?_eq_getElem hi]
  rfl
theorem K1lt {w w1 : World} {o1 o2 : Obj} (h : Below ((w.alloc o1).alloc o2).heap.size ((w.alloc o1).alloc o2) w1) : w.heap.size + 1 < w1.heap.size := size_lt h (by rw [size_alloc, size_alloc]; omega)
theorem keep_grown {w w' : World} {g b : Nat} {o : Obj} (hg : w.grownBy w' (some g)) (hne : b ≠ g) (h : w.heap[b]? = some o) : w'.heap[b]? = some o :=
  (hg.block b (blk_lt h) (by simpa using hne)).trans h
set_option maxHeartbeats 1000000 in
set_option maxRecDepth 100000 in
theorem tear_ok (v : Value) (xs : List ByteArray) (i : Nat) (t : ByteArray) (k : Nat) (w : World) (hS : SlAt w v 1 xs.length (strs xs)) (h : mayD xs i = 0) (ht : t.size = 128) (hk : k ≤ 128) (hi : i < xs.length) :
    Calls Try.prog 33 #[.agg #[v], .int .i64 i, .string t, .int .i64 k] w (DiskRes w (xs.set i (over xs[i] t k)) 0) := by
  obtain ⟨hr, _, _⟩ := mayD_zero h
  obtain ⟨h10, h130, hsz⟩ := rightD_sizes hr
  have hx128 : (xs[i]).size = 128 := hsz _ (List.getElem_mem hi)
  obtain ⟨x, hx⟩ : ∃ x, x = xs[i] := ⟨_, rfl⟩
  rw [← hx] at hx128 ⊢
  obtain ⟨a, c, rfl, hnc, hcm⟩ := hS.form
  have HS := Lib.hid hS
  clear hS
  have hm := fun W (h : SlAt W (Value.slice a xs.length c) 1 xs.length (strs xs)) => may_any _ xs i W h
  rw [h] at hm
  have HM := Lib.hid hm
  clear hm h hsz hr
  obtain ⟨b, o, rfl, hbl, hcell⟩ := HS.out.at (by omega)
  have hck := hcell i _ (strs_get xs i hi)
  rw [← hx] at hck
  clear hcell
  have HX := Lib.hid hx
  clear hx
  have hal : ∀ W : World, (Instr.alloc 69 true (.tuple #[])).run Try.prog W = .ok (.pointer (some ⟨W.heap.size, 0, none⟩)) (W.alloc (.cells (Lib.byteCells (zeros 128)).toArray 69)) := fun W => by kernel_rfl
  have HA := Lib.hid hal
  clear hal
  have hk1 : (k : Int) ≤ 128 := by omega
  have HZ : Hid ((Try.prog.info? 5).map (·.size) = some 1) := by
    show (Try.prog.info? 5).map (·.size) = some 1
    kernel_rfl
  have HF1 : Hid (0 + min x.size 128 ≤ (zeros 128).length) := by
    show _ ≤ _
    rw [zeros_len]
    omega
  have HL1 : Hid (bytesOf x = splice (zeros 128) 0 ((bytesOf x).take (min x.size 128))) := by
    show _ = _
    have hl : (bytesOf x).length = 128 := by rw [show (bytesOf x).length = x.size from len_data x, hx128]
    rw [List.take_of_length_le (by rw [hl, hx128]; decide)]
    have := splice_mid [] (zeros 128) [] (bytesOf x) 0 rfl (by rw [hl, zeros_len])
    simpa using this.symm
  have HF3 : Hid (0 + 128 ≤ (splice (bytesOf x) 0 ((bytesOf t).take (min t.size k))).length) := by
    show _ ≤ _
    have hl : (bytesOf x).length = 128 := by rw [show (bytesOf x).length = x.size from len_data x, hx128]
    rw [length_splice _ _ _ (by rw [List.length_take, hl]; omega), hl]
    decide
  have HF2 : Hid (0 + min t.size k ≤ (bytesOf x).length) := by
    show _ ≤ _
    rw [show (bytesOf x).length = x.size from len_data x, hx128]
    omega
  have hx' : x.size = 128 := hx128
  go_enter Try.func33, Try.ntmps33
  go_wp2_with (first
    | (go_at_call 52; refine (HM.out _ ((HS.out.alloc _).alloc _)).mono ?_; rintro e w1 ⟨rfl, hb1⟩; have K1 := Lib.hid (blk_call hb1 (blk_new2 w _ _)); have K0 := Lib.hid (blk_call hb1 (blk_new1 w _ _)))
    | (with_reducible refine ev_alloc 11 rfl rfl 128 rfl HA.out ?_; intro W2 g2 hg2 hz2 HB2 hb2; have e0 := blk_cell (blk_call hb2 K0.out) (j := 0) rfl; have ex := (hb2.cell (p := ⟨b, o + i, none⟩) (size_lt hb1 (by rw [size_alloc, size_alloc]; show b < _; omega))).trans ((hb1.cell (p := ⟨b, o + i, none⟩) (by rw [size_alloc, size_alloc]; show b < _; omega)).trans ((cell_alloc2 w _ _ hbl).trans hck)))
    )
  go_region_law (refine st_copy_str rfl (.tmp 33) (.tmp 38) 25 9 rfl 5 Try.underlying25 HZ.out 0 128 128 x (by go_simp) (by go_simp) HB2.out.drew HF1.out ?_; intro W3 HB3 hgr3)
  have HB4 := name4 HB3.out HL1.out
  have hz1 := K1lt hb1
  have hne1 : w.heap.size + 1 ≠ g2 := by omega
  have hne0 : w.heap.size ≠ g2 := by omega
  have hb12 : Below w.heap.size w W2 := bel (bel (bal (bal (Below.refl _ _) _) _) hb1) hb2
  have hz3 : W2.heap.size ≤ W3.heap.size := hgr3.size
  have HW3 := Lib.hid (grown_below hb12.drew hgr3 (by show w.heap.size ≤ W2.heap.size; omega) (by omega))
  have K3 := Lib.hid (keep_grown hgr3 hne1 (blk_call hb2 K1.out))
  have K4 := Lib.hid (keep_grown hgr3 hne0 (blk_call hb2 K0.out))
  clear HB3 hgr3
  go_wp2_with (first
    | ((with_reducible refine gate 43 rfl ?_); refine ev_copy_str rfl (.tmp 41) (.tmp 42) 25 9 rfl 5 Try.underlying25 HZ.out 0 k 128 t rfl rfl HB4.out HF2.out ?_; intro W4 HB5 hgr4; have K5 := Lib.hid (keep_grown hgr4 hne1 K3.out); have K6 := Lib.hid (keep_grown hgr4 hne0 K4.out); have e4 := blk_cell K6.out (j := 0) rfl; have HW4 := Lib.hid (grown_below HW3.out hgr4 (by omega) (by omega))))
  refine (Try.slices_Clone_string b o xs.length c xs _ (Nat.le_refl _) (by omega) (cells_getD (HS.out.stay HW4.out))).mono ?_
  rintro e w5 ⟨v', rfl, hown, hnn, hb5⟩
  obtain ⟨g5, cap5, rfl, h5b, h5lt⟩ := hown.form (by omega)
  have HOWN := Lib.hid hown
  clear hown hnn
  have c5 := cell_own HOWN.out hi
  have f5 := HOWN.out.frozenAt i
  have hrt := run_text (P := Try.prog) Try.underlying25 Try.underlying5 Try.underlying9 (HB5.out.below hb5) 0 128 128 HF3.out
  have K7 := Lib.hid (blk_call hb5 K5.out)
  have hne5 : w.heap.size + 1 ≠ g5 := by
    have := hgr4.size
    omega
  have c7 := fun u => blk_cell (blk_set_far K7.out (a := ⟨g5, i, none⟩) hne5 u) (j := 0) rfl
  have f7 := fun u => blk_free (blk_set_far K7.out (a := ⟨g5, i, none⟩) hne5 u) 0
  go_wp2
  obtain ⟨S, hS⟩ : ∃ S, S = ByteArray.mk (((splice (bytesOf x) 0 ((bytesOf t).take (min t.size k))).drop 0).take 128).toArray := ⟨_, rfl⟩
  have hSo : S = over x t k := by
    have hlx : (bytesOf x).length = 128 := by rw [show (bytesOf x).length = x.size from len_data x, hx128]
    have hlt : (bytesOf t).length = 128 := by rw [show (bytesOf t).length = t.size from len_data t, ht]
    rw [hS, List.drop_zero, List.take_of_length_le (by rw [length_splice _ _ _ (by rw [List.length_take, hlx]; omega), hlx]; exact Nat.le_refl _)]
    unfold over splice
    rw [show min t.size k = k by omega, List.take_zero, List.nil_append, List.length_take, hlt, show min k 128 = k by omega, Nat.zero_add]
    rfl
  refine bodyPost_ret (v := .tuple #[.agg #[.slice (some ⟨g5, 0, none⟩) xs.length cap5], .int .i64 0]) ?_ rfl ?_
  · simp [results, Try.results33, go_sem, c7]
  · have hst := (HOWN.out.stored i (.string S)).1
    have hl : ((xs.take xs.length).map Value.string).set i (.string S) = strs (xs.set i S) := by
      rw [List.take_length, ← List.map_set]
      rfl
    rw [hl] at hst
    rw [← hSo]
    have hsl := SlAt.of_own hst (by unfold maxLen; omega)
    have hw5 := bels HW4.out HW4.out.size hb5
    have hg5 : w.heap.size ≤ g5 := Nat.le_trans HW4.out.size h5b
    refine ⟨_, rfl, ?_, fun b hb => by have e : g5 = b := Option.some.inj hb; omega, ?_⟩
    · rw [List.length_set]
      have := hsl.store (p := ⟨w.heap.size + 1, 0, none⟩) (fun b hb => by have e : g5 = b := Option.some.inj hb; show b ≠ w.heap.size + 1; omega) (.slice (some ⟨g5, 0, none⟩) xs.length cap5)
      have hS2 : S = ByteArray.mk ((splice (bytesOf x) 0 ((bytesOf t).take k)).take 128).toArray := by
        rw [hS, List.drop_zero, show min t.size k = k by omega]
      rw [hS2] at this ⊢
      exact this
    · exact bset (bset hw5 hg5 _) (Nat.le_succ _) _
/-- Tear: what it answers. -/
theorem tear_any (v : Value) (xs : List ByteArray) (i : Int) (t : ByteArray) (k : Int) (w : World) (hS : SlAt w v 1 xs.length (strs xs)) :
    Calls Try.prog 33 #[.agg #[v], .int .i64 i, .string t, .int .i64 k] w (DiskRes w (tearL xs i t k) (tearE xs i t k)) := by
  by_cases h : mayD xs i = 0
  · by_cases ht : t.size = 128
    · by_cases hk : k < 0 ∨ 128 < k
      · have e : tearE xs i t k = 1 := by unfold tearE; rw [if_neg (by simp [h]), if_neg (by simp [ht]), if_pos hk]
        have e2 : tearL xs i t k = [] := by unfold tearL; rw [e]; rfl
        rw [e, e2]
        exact tear_bad3 v xs i t k w hS h ht hk
      · have e : tearE xs i t k = 0 := by unfold tearE; rw [if_neg (by simp [h]), if_neg (by simp [ht]), if_neg hk]
        obtain ⟨_, h0, h1⟩ := mayD_zero h
        obtain ⟨n, rfl⟩ := Int.eq_ofNat_of_zero_le h0
        obtain ⟨m, rfl⟩ := Int.eq_ofNat_of_zero_le (show 0 ≤ k by omega)
        have hn : n < xs.length := by omega
        have e2 : tearL xs n t m = xs.set n (over xs[n] t m) := by
          unfold tearL
          rw [if_pos e, Int.toNat_natCast, Int.toNat_natCast, List.getD_eq_getElem?_getD, List.getElem?_eq_getElem hn]
          rfl
        rw [e, e2]
        exact tear_ok v xs n t m w hS h ht (by omega) hn
    · have e : tearE xs i t k = 2 := by unfold tearE; rw [if_neg (by simp [h]), if_pos ht]
      have e2 : tearL xs i t k = [] := by unfold tearL; rw [e]; rfl
      rw [e, e2]
      exact tear_bad2 v xs i t k w hS h ht
  · have e : tearE xs i t k = mayD xs i := by unfold tearE; rw [if_pos h]
    have e2 : tearL xs i t k = [] := by unfold tearL; rw [e, if_neg h]
    rw [e, e2]
    exact tear_bad1 v xs i t k w hS h
end Go.Proofs.Ytpccdlpkaflioaa
