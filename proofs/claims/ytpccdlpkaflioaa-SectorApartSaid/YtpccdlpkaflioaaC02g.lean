/- Contracts of foghornref02.New, Tear, Write. -/
import Derived.Test.YtpccdlpkaflioaaC02f
import Derived.Test.YtpccdlpkaflioaaC03r
import Derived.Test.YtpccdlpkaflioaaM07
set_option linter.unusedVariables false
set_option linter.unusedSimpArgs false
namespace Go.Proofs.Ytpccdlpkaflioaa
open Go.RowKit
theorem infoS : (Try.prog.info? 9).map (fun i => (i.zero, i.size, i.bytes)) = some (some (.string ⟨#[]⟩), 1, 16) := by kernel_rfl
theorem strs_snoc (xs : List ByteArray) (x : ByteArray) : strs xs ++ [.string x] = strs (xs ++ [x]) := by simp [strs]
theorem one_str (x : ByteArray) : ∀ u ∈ [Value.string x], u.oneCell' = true := by intro u hu; rw [List.mem_singleton.1 hu]; rfl
/-- A disk, alone. -/
def DiskTo (w : World) (xs : List ByteArray) (e : Ending) (w' : World) : Prop := ∃ v, e = .returned (.agg #[v]) ∧ SlAt w' v 1 xs.length (strs xs) ∧ FreshV w.heap.size v ∧ Below w.heap.size w w'
theorem refNew_to (n : Nat) (xs : List ByteArray) (hx : Hid (xs = List.replicate n z128)) (hn : n ≤ 1000) (w : World) :
    Calls Try.prog 38 #[.int .i64 n] w (DiskTo w xs) := by
  have HZ : Hid (z128 = ⟨(zeros 128).toArray⟩) := Lib.hid rfl
  go_enter Try.func38, Try.ntmps38
  go_wp2
  go_loopw [4] (fun i wr => ∃ (k : Nat) (v : Value), k ≤ n ∧ i = .int .i64 k ∧ Hid (wr.heap[w.heap.size]? = some (.cells #[.slice none 0 0] 45 (0, 0))) ∧ Hid (wr.heap[w.heap.size + 1]? = some (.cells #[v] 45 (0, 0))) ∧ Hid (wr.ownsRow (w.heap.size + 2) 9 1 v k (strs (List.replicate k z128))) ∧ Below w.heap.size w wr ∧ w.heap.size + 2 ≤ wr.heap.size) (fun i _ => n - (intOf i).toNat)
  case atStart => exact ⟨0, _, Nat.zero_le _, rfl, Lib.hid (by first | exact blk_new1 _ _ _ | exact blk_set_far (blk_new1 _ _ _) (by simp) _), Lib.hid (by first | exact blk_new2 _ _ _ | exact blk_set (blk_new2 _ _ _) 0 _), Lib.hid (World.ownsRow_nil _ _ _ _), by first | exact bal (bal (Below.refl _ _) _) _ | exact bset (bal (bal (Below.refl _ _) _) _) (Nat.le_succ _) _, by simp⟩
  case round =>
    obtain ⟨k, v, hk, rfl, K0, K1, HO, hbel, hsz⟩ := hrel
    have e0 := blk_cell K0.out (j := 0) rfl
    have e1 := blk_cell K1.out (j := 0) rfl
    have f0 := blk_free K0.out 0
    have f1 := blk_free K1.out 0
    by_cases hlt : k < n
    · have HI := Lib.hid infoS
      have n0 : w.heap.size + 1 < wr.heap.size := hsz
      have n1 : ¬ wr.heap.size = w.heap.size + 1 := by omega
      go_wp2
      go_region_law (first
        | (refine st_app1 (W := wr.drew) rfl (.tmp 12) (.tmp 14) 43 (by rfl) (.string ⟨#[]⟩) 16 Try.underlying43 HI.out rfl (by omega) (by omega) [.string z128] (by rfl) (by rfl) rfl (one_str _) (row_drew HO.out) (by simp; omega) (by omega) ?_; intro g1 cap1 w1 HO1 hB1 hlt1 hg1; have K2 := Lib.hid (keep_row hg1 (row_drew HO.out) (by omega) K0.out); have K3 := Lib.hid (keep_row hg1 (row_drew HO.out) (by omega) K1.out); have e3 := blk_cell K3.out (j := 0) rfl; have f3 := blk_free K3.out 0; have hb1 := bel_row hbel.drew (by simp; omega) (row_drew HO.out) (by omega) hg1)
        | (go_simp; go_at_call 49; refine (refZeros_to 128 _ HZ (by omega) _).mono ?_; rintro e w2 ⟨rfl, rfl⟩))
      all_goals
        go_wp2
        have e9 : strs (List.replicate k z128) ++ [Value.string z128] = strs (List.replicate (k + 1) z128) := by rw [strs_snoc, List.replicate_succ']
        have HO2 := HO1.out
        rw [e9] at HO2
        exact ⟨⟨k + 1, _, by omega, by go_num, blk_set_far K2.out (by simp) _, blk_set K3.out 0 _, row_store HO2 (by simp) _, bset hb1 (Nat.le_succ _) _, by rw [size_set]; omega⟩, by simp [intOf]; omega⟩
    · obtain rfl : k = n := by omega
      have h := SlAt.of_own HO.out (by unfold maxLen; omega)
      have hfr := FreshV.of_own HO.out
      obtain ⟨a, c, rfl, _, _⟩ := h.form
      have H := Lib.hid h
      clear h
      go_wp2
      refine bodyPost_ret (v := .agg #[.slice a k c]) ?_ rfl ?_
      · simp [results, Try.results38, go_sem, blk_cell (blk_set K0.out 0 (.slice a k c)) (j := 0) rfl]
      · rw [hx.out]
        refine ⟨_, rfl, ?_, hfr.mono (by omega), bset hbel (Nat.le_refl _) _⟩
        rw [List.length_replicate]
        exact H.out.store (fun b hb => by have := hfr b hb; show b ≠ w.heap.size; omega) _
theorem tear_step (xs : List ByteArray) (t : ByteArray) (i k : Nat) (hk : k < xs.length) :
    (xs.take k).mapIdx (fun j x => if j = i then t else x) ++ [if k = i then t else xs[k]] = (xs.take (k + 1)).mapIdx (fun j x => if j = i then t else x) := by
  rw [List.take_succ_eq_append_getElem hk, List.mapIdx_append]
  simp [Nat.min_eq_left (Nat.le_of_lt hk)]
theorem tear_all (xs : List ByteArray) (t : ByteArray) (i : Nat) (hi : i < xs.length) : xs.mapIdx (fun j x => if j = i then t else x) = xs.set i t := by
  apply List.ext_getElem
  · simp
  · intro j h1 h2
    simp [List.getElem_set]
    split <;> split <;> first | rfl | omega
theorem over_ext (x t : ByteArray) (k : Nat) (hk : k ≤ t.size) : t.extract 0 k ++ x.extract k x.size = over x t k := by
  apply ByteArray.ext
  apply Array.toList_inj.1
  unfold over
  simp only [ByteArray.data_append, ByteArray.data_extract, Array.toList_append, Array.toList_extract, List.extract_eq_take_drop]
  simp only [Nat.sub_zero, List.drop_zero]
  congr 1
  rw [List.take_of_length_le]
  rw [List.length_drop, len_data]
  omega
/-- Tear by the reference: a sector that there is, at 0 to 128 bytes. -/
theorem refTear_to (v : Value) (xs : List ByteArray) (i : Nat) (t : ByteArray) (k : Nat) (w : World) (hS : SlAt w v 1 xs.length (strs xs)) (hi : i < xs.length) (hk : k ≤ t.size) (hkx : k ≤ (xs[i]).size) (hx : (xs[i]).size ≤ 1000) (ht : t.size ≤ 1000) (hn : xs.length ≤ 1000) :
    Calls Try.prog 41 #[.agg #[v], .int .i64 i, .string t, .int .i64 k] w (DiskTo w (xs.set i (over xs[i] t k))) := by
  obtain ⟨a, c, rfl, hnc, hcm⟩ := hS.form
  obtain ⟨x, hx'⟩ : ∃ x, x = xs[i] := ⟨_, rfl⟩
  rw [← hx'] at hkx hx ⊢
  obtain ⟨y, hy⟩ : ∃ y, y = over x t k := ⟨_, rfl⟩
  have hye := over_ext x t k hk
  have hL := tear_all xs y i hi
  rw [← hy] at hye ⊢
  have HX := Lib.hid hx'
  have HY := Lib.hid hye
  have HL := Lib.hid hL
  have HS := Lib.hid hS
  clear hx' hye hL hy hS
  go_enter Try.func41, Try.ntmps41
  go_wp2
  go_loopw [9, 16] (fun v i_ wr => ∃ (j : Nat), j ≤ xs.length ∧ i_ = .int .i64 j ∧ Hid (wr.ownsRow (w.heap.size + 2) 9 1 v j (strs ((xs.take j).mapIdx fun m z => if m = i then y else z))) ∧ Below (w.heap.size + 2) ((w.alloc (.cells #[.slice a xs.length c] 45)).alloc (.cells #[.slice none 0 0] 45)) wr ∧ w.heap.size + 2 ≤ wr.heap.size) (fun _ i_ _ => xs.length - (intOf i_).toNat)
  case atStart => exact ⟨0, Nat.zero_le _, rfl, row_empty _ (by simp) (by omega), (Below.refl _ _).alloc (by simp) _, by simp⟩
  case round =>
    obtain ⟨j, hj, rfl, HO, hbel, hsz⟩ := hrel
    have HS1 := Lib.hid ((HS.out.alloc (.cells #[.slice a xs.length c] 45)).alloc (.cells #[.slice none 0 0] 45))
    by_cases hlt : j < xs.length
    · obtain ⟨b, o, rfl, hbl, hcell⟩ := (HS1.out.stay (hbel.mono (by simp))).at (by omega)
      have hck := hcell j _ (strs_get xs j hlt)
      clear hcell
      have K0 := Lib.hid (blk_below hbel (by omega) (blk_new1 w (.cells #[.slice (some ⟨b, o, none⟩) xs.length c] 45) (.cells #[.slice none 0 0] 45)))
      have e0 := blk_cell K0.out (j := 0) rfl
      have HI := Lib.hid infoS
      have hsz2 : w.heap.size + 1 < wr.heap.size := hsz
      by_cases hji : j = i
      · subst hji
        rw [← HX.out] at hck
        have HST := Lib.hid (tear_step xs y j j hlt)
        go_wp2
        have q1 : (k : Int) ≤ (t.size : Int) := by omega
        have q2 : (k : Int) ≤ (x.size : Int) := by omega
        have q3 : ¬ 9223372036854775807 < k + (x.size - k) := by omega
        go_quiet (fail)
        rw [HY.out]
        go_wp2_with (refine ev_app1 rfl (.tmp 31) (.tmp 33) 43 (by rfl) (.string ⟨#[]⟩) 16 Try.underlying43 HI.out rfl (by omega) (by omega) [.string y] (by rfl) (by rfl) rfl (one_str _) (by exact HO.out) (by simp; omega) (by omega) ?_; intro g1 cap1 w1 HO1 hB1 hlt1 hg1; have hb1 := bel_row (bdn hbel nq) (by simp; omega) HO.out (by omega) hg1)
        have HO2 := HO1.out
        have h9 := HST.out
        simp only [if_true] at h9
        rw [show strs ((xs.take j).mapIdx fun m z => if m = j then y else z) ++ [.string y] = strs ((xs.take (j + 1)).mapIdx fun m z => if m = j then y else z) by rw [strs_snoc, h9]] at HO2
        exact ⟨⟨j + 1, by omega, by go_num, HO2, hb1, by have := hb1.size; simp at this; omega⟩, by simp [intOf]; omega⟩
      · have hq : ((j : Int) == (i : Int)) = false := by simp; omega
        have HST := Lib.hid (tear_step xs y i j hlt)
        have HNE := Lib.hid hji
        clear hji
        go_wp2_with (refine ev_app1 rfl (.tmp 31) (.tmp 33) 43 (by rfl) (.string ⟨#[]⟩) 16 Try.underlying43 HI.out rfl (by omega) (by omega) [.string xs[j]] (by rfl) (by rfl) rfl (one_str _) (HO.out) (by omega) (by omega) ?_; intro g1 cap1 w1 HO1 hB1 hlt1 hg1; have hb1 := bel_row hbel (by omega) HO.out (by omega) hg1)
        have HO2 := HO1.out
        have h9 := HST.out
        rw [if_neg HNE.out] at h9
        rw [strs_snoc, h9] at HO2
        exact ⟨⟨j + 1, by omega, by go_num, HO2, hb1, by have := hb1.size; simp at this; omega⟩, by simp [intOf]; omega⟩
    · obtain rfl : j = xs.length := by omega
      have h := SlAt.of_own HO.out (by omega)
      have hfr := FreshV.of_own HO.out
      rw [List.take_length, HL.out] at h
      obtain ⟨a2, c2, hv, _, _⟩ := h.form
      subst hv
      have K1 := Lib.hid (blk_below hbel (by omega) (blk_new2 w (.cells #[.slice a xs.length c] 45) (.cells #[.slice none 0 0] 45)))
      have e1 := blk_cell K1.out (j := 0) rfl
      have f1 := blk_free K1.out 0
      have H := Lib.hid h
      clear h
      go_wp2
      refine bodyPost_ret (v := .agg #[.slice a2 xs.length c2]) ?_ rfl ?_
      · simp [results, Try.results41, go_sem, blk_cell (blk_set K1.out 0 (.slice a2 xs.length c2)) (j := 0) rfl]
      · have hb : Below w.heap.size w wr := (bal (bal (Below.refl _ _) _) _).trans (hbel.mono (by omega))
        refine ⟨_, rfl, ?_, hfr.mono (by omega), bset hb (Nat.le_succ _) _⟩
        rw [List.length_set]
        exact H.out.store (fun b hb => by have := hfr b hb; show b ≠ w.heap.size + 1; omega) _
theorem refWrite_to (v : Value) (xs : List ByteArray) (i : Nat) (t : ByteArray) (w : World) (hS : SlAt w v 1 xs.length (strs xs)) (hi : i < xs.length) (ht : t.size = 128) (hx : (xs[i]).size = 128) (hn : xs.length ≤ 1000) :
    Calls Try.prog 40 #[.agg #[v], .int .i64 i, .string t] w (DiskTo w (xs.set i (over xs[i] t 128))) := by
  obtain ⟨a, c, rfl, hnc, hcm⟩ := hS.form
  have HT := Lib.hid fun W (h : SlAt W (Value.slice a xs.length c) 1 xs.length (strs xs)) => refTear_to _ xs i t 128 W h hi (by omega) (by omega) (by omega) (by omega) hn
  have HS := Lib.hid hS
  have hlen : (xs.set i (over xs[i] t 128)).length = xs.length := List.length_set
  obtain ⟨L, hL⟩ : ∃ L, L = xs.set i (over xs[i] t 128) := ⟨_, rfl⟩
  rw [← hL] at HT hlen ⊢
  have HN := Lib.hid hlen
  clear hS ht hx hL hlen
  go_enter Try.func40, Try.ntmps40
  go_wp2_with (go_at_call 41; refine (HT.out _ ((HS.out.alloc _).alloc _)).mono ?_; rintro e w1 ⟨v', rfl, hs1, hf1, hb1⟩; obtain ⟨a1, c1, rfl, hn1, hm1⟩ := hs1.form; have K1 := Lib.hid (blk_call hb1 (blk_new2 w _ _)); have e1 := blk_cell K1.out (j := 0) rfl; have e2 := blk_free K1.out 0)
  refine bodyPost_ret (v := .agg #[.slice a1 L.length c1]) ?_ rfl ?_
  · simp [results, Try.results40, go_sem, blk_cell (blk_set K1.out 0 (.slice a1 L.length c1)) (j := 0) rfl]
  · refine ⟨_, rfl, hs1.store (fun b hb => ?_) _, hf1.mono (by simp; omega), bset (bel (bal (bal (Below.refl _ _) _) _) hb1) (Nat.le_succ _) _⟩
    have := hf1 b hb
    simp at this
    show b ≠ w.heap.size + 1
    omega
end Go.Proofs.Ytpccdlpkaflioaa
