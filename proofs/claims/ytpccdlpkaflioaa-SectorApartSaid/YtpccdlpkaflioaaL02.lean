/- Helpers of the statements of layer 2: few, whole, alive. -/
import Derived.Test.YtpccdlpkaflioaaC02g
import Derived.Test.YtpccdlpkaflioaaL02w
set_option linter.unusedVariables false
set_option linter.unusedSimpArgs false
namespace Go.Proofs.Ytpccdlpkaflioaa
open Go.RowKit
def cut130 (x : ByteArray) : ByteArray := x.extract 0 130
def fewD (xs : List ByteArray) : List ByteArray := (xs.take 132).map cut130
theorem few02_step (xs : List ByteArray) (k : Nat) (hk : k < xs.length) : (xs.take k).map cut130 ++ [cut130 xs[k]] = (xs.take (k + 1)).map cut130 := by
  rw [List.take_succ_eq_append_getElem hk, List.map_append]
  rfl
set_option maxHeartbeats 1000000 in
theorem few02_any (v : Value) (xs : List ByteArray) (w : World) (hS : SlAt w v 1 xs.length (strs xs)) :
    Calls Try.prog 29 #[.agg #[v]] w (DiskTo w (fewD xs)) := by
  obtain ⟨a, c, rfl, hnc, hcm⟩ := hS.form
  obtain ⟨m, hm⟩ : ∃ m, m = min xs.length 132 := ⟨_, rfl⟩
  have hm1 : m ≤ xs.length := by omega
  have hm2 : m ≤ 132 := by omega
  have hfl : fewD xs = (xs.take m).map cut130 := by
    unfold fewD
    rw [hm, List.take_eq_take_min]
    congr 1
    rw [Nat.min_comm]
  rw [hfl]
  clear hfl
  have HS := Lib.hid hS
  have HM := Lib.hid hm
  clear hS
  unfold maxLen at hcm
  have hmin : min (xs.length : Int) 132 = (m : Int) := by omega
  clear hm
  go_enter Try.func29, Try.ntmps29
  go_wp2
  clear hmin
  go_loopw [3, 14] (fun v i wr => ∃ (k : Nat), k ≤ m ∧ i = .int .i64 k ∧ Hid (wr.ownsRow (w.heap.size + 2) 9 1 v k (strs ((xs.take k).map cut130))) ∧ Below (w.heap.size + 2) ((w.alloc (.cells #[.slice a xs.length c] 45)).alloc (.cells #[.slice none 0 0] 45)) wr ∧ w.heap.size + 2 ≤ wr.heap.size) (fun _ i _ => m - (intOf i).toNat)
  case atStart => exact ⟨0, Nat.zero_le _, rfl, World.ownsRow_nil _ _ _ _, Below.refl _ _, by simp⟩
  case round =>
    obtain ⟨k, hk, rfl, HO, hbel, hsz⟩ := hrel
    have HS1 := Lib.hid ((HS.out.alloc (.cells #[.slice a xs.length c] 45)).alloc (.cells #[.slice none 0 0] 45))
    by_cases hlt : k < m
    · obtain ⟨b, o, rfl, hbl, hcell⟩ := (HS1.out.stay (hbel.mono (by simp))).at (by omega)
      have hck := hcell k _ (strs_get xs k (by omega))
      clear hcell
      have HI := Lib.hid infoS
      have hsz2 : w.heap.size + 1 < wr.heap.size := hsz
      obtain ⟨x, hx⟩ : ∃ x, x = xs[k] := ⟨_, rfl⟩
      rw [← hx] at hck
      have hst := few02_step xs k (by omega)
      rw [← hx] at hst
      have HST := Lib.hid hst
      clear hx hst
      rcases Nat.lt_or_ge 130 x.size with c1 | c1
      · have hmn : min (x.size : Int) 130 = 130 := by omega
        have hsl : x.extract 0 130 = cut130 x := rfl
        go_wp2_with (refine ev_app1 rfl (.tmp 18) (.tmp 24) 43 (by rfl) (.string ⟨#[]⟩) 16 Try.underlying43 HI.out rfl (by omega) (by omega) [.string (cut130 x)] (by rfl) (by rfl) rfl (one_str _) (by exact HO.out) (by omega) (by omega) ?_; intro g1 cap1 w1 HO1 hB1 hlt1 hg1; have hb1 := bel_row hbel (by omega) HO.out (by omega) hg1)
        have HO2 := HO1.out
        rw [strs_snoc, HST.out] at HO2
        exact ⟨⟨k + 1, by omega, by go_num, HO2, hb1, by have := hb1.size; simp at this; omega⟩, by simp [intOf]; omega⟩
      · have hmn : min (x.size : Int) 130 = x.size := by omega
        have hsl : x = cut130 x := (ext0_all x 130 c1).symm
        have HSL := Lib.hid hsl
        clear hsl
        go_wp2_with (refine ev_app1 rfl (.tmp 18) (.tmp 24) 43 (by rfl) (.string ⟨#[]⟩) 16 Try.underlying43 HI.out rfl (by omega) (by omega) [.string x] (by rfl) (by rfl) rfl (one_str _) (by exact HO.out) (by omega) (by omega) ?_; intro g1 cap1 w1 HO1 hB1 hlt1 hg1; have hb1 := bel_row hbel (by omega) HO.out (by omega) hg1)
        have HO2 := HO1.out
        have h9 := HST.out
        rw [← HSL.out] at h9
        rw [strs_snoc, h9] at HO2
        exact ⟨⟨k + 1, by omega, by go_num, HO2, hb1, by have := hb1.size; simp at this; omega⟩, by simp [intOf]; omega⟩
    · obtain rfl : k = m := by omega
      have h := SlAt.of_own HO.out (by unfold maxLen; omega)
      have hfr := FreshV.of_own HO.out
      obtain ⟨a2, c2, hv, _, _⟩ := h.form
      subst hv
      have K1 := Lib.hid (blk_below hbel (by omega) (blk_new2 w (.cells #[.slice a xs.length c] 45) (.cells #[.slice none 0 0] 45)))
      have e1 := blk_cell K1.out (j := 0) rfl
      have f1 := blk_free K1.out 0
      have H := Lib.hid h
      clear h
      have hlen : ((xs.take k).map cut130).length = k := by rw [List.length_map, List.length_take]; omega
      have HLEN := Lib.hid hlen
      clear hlen
      go_wp2
      refine bodyPost_ret (v := .agg #[.slice a2 k c2]) ?_ rfl ?_
      · simp [results, Try.results29, go_sem, blk_cell (blk_set K1.out 0 (.slice a2 k c2)) (j := 0) rfl]
      · have hb : Below w.heap.size w wr := (bal (bal (Below.refl _ _) _) _).trans (hbel.mono (by omega))
        refine ⟨_, rfl, ?_, hfr.mono (by omega), bset hb (Nat.le_succ _) _⟩
        rw [HLEN.out]
        exact H.out.store (fun b hb => by have := hfr b hb; show b ≠ w.heap.size + 1; omega) _
theorem alive02_any (w : World) :
    Calls Try.prog 36 #[] w fun e w' => e = .returned (.bool true) ∧ Below w.heap.size w w' := by
  obtain ⟨Z, hZ⟩ : ∃ Z, Z = ByteArray.mk (zeros 126).toArray := ⟨_, rfl⟩
  obtain ⟨Y, hY⟩ : ∃ Y, Y = ByteArray.mk (zeros 127).toArray := ⟨_, rfl⟩
  obtain ⟨T, hT⟩ : ∃ T, T = ByteArray.mk #[97, 98] ++ Z := ⟨_, rfl⟩
  obtain ⟨S, hS⟩ : ∃ S, S = ByteArray.mk #[97] ++ Y := ⟨_, rfl⟩
  have hzs : Z.size = 126 := by rw [hZ]; exact zeros_size _
  have hys : Y.size = 127 := by rw [hY]; exact zeros_size _
  have hl1 : newL 10 = List.replicate 10 z128 := by decide +kernel
  have hl2 : tearL (newL 10) 9 T 1 = (List.replicate 9 z128) ++ [S] ∧ tearE (newL 10) 9 T 1 = 0 ∧ readD ((List.replicate 9 z128) ++ [S]) 9 = S ∧ mayD ((List.replicate 9 z128) ++ [S]) 9 = 0 := by
    subst hT hS hZ hY
    decide +kernel
  rw [hl1] at hl2
  obtain ⟨t1, t2, t3, t4⟩ := hl2
  have hnew := fun W => new_any 10 W
  rw [hl1, show newE 10 = 0 from rfl] at hnew
  have htear := fun v W (h : SlAt W v 1 10 (strs (List.replicate 10 z128))) => tear_any v _ 9 T 1 W h
  rw [t1, t2] at htear
  have hread := fun v W (h : SlAt W v 1 10 (strs ((List.replicate 9 z128) ++ [S]))) => read_any v _ 9 W h
  rw [t3, t4] at hread
  have q1 : ¬ 9223372036854775807 < 2 + Z.size := by omega
  have q2 : ¬ 9223372036854775807 < 1 + Y.size := by omega
  have HN := Lib.hid hnew
  have HT := Lib.hid htear
  have HR := Lib.hid hread
  have HZ := Lib.hid hZ
  have HY := Lib.hid hY
  have HTT := Lib.hid hT
  have HSS := Lib.hid hS
  clear hnew htear hread hZ hY hT hS hl1 t1 t2 t3 t4 hzs hys
  go_enter Try.func36, Try.ntmps36
  go_wp2_with (go_at_call 30; refine (HN.out _).mono ?_; rintro e w1 ⟨v1, rfl, hs1, hf1, hb1⟩; obtain ⟨a1, c1, rfl, hn1, hm1⟩ := hs1.form; have HS1 := Lib.hid hs1; clear hs1)
  go_region_law (first
    | (go_simp; go_at_call 49; refine (refZeros_to 126 _ HZ (by omega) _).mono ?_; rintro e w2 ⟨rfl, rfl⟩)
    | (go_simp; rw [← HTT.out]; go_at_call 33; refine (HT.out _ _ ((HS1.out.alloc _).stay (Below.refl _ _).drew)).mono ?_; rintro e w2 ⟨v2, rfl, hs2, hf2, hb2⟩; obtain ⟨a2, c2, rfl, hn2, hm2⟩ := hs2.form; have HS2 := Lib.hid hs2; clear hs2; have K2 := Lib.hid (blk_call hb2 (show (w1.alloc (.cells #[.slice a1 10 c1] 45)).drew.heap[w1.heap.size]? = some _ from blk_new w1 _)); have e2 := blk_cell K2.out (j := 0) rfl; have f2 := blk_free K2.out 0))
  all_goals
    have HS3 := Lib.hid (HS2.out.store (p := ⟨w1.heap.size, 0, none⟩) (fun b hb => by have := hf2 b hb; simp at this; show b ≠ w1.heap.size; omega) (.slice a2 10 c2))
    have e3 := blk_cell (blk_set K2.out 0 (.slice a2 10 c2)) (j := 0) rfl
    go_wp2_with (first
      | (go_at_call 31; refine (HR.out _ _ HS3.out).mono ?_; rintro e w3 ⟨rfl, hb3⟩)
      | (go_at_call 49; refine (refZeros_to 127 _ HY (by omega) _).mono ?_; rintro e w4 ⟨rfl, rfl⟩))
    go_ret
    refine ⟨ret_bool (by rw [HSS.out]; first | rfl | simp), ?_⟩
    have hz := hb1.size
    exact bel (bset (bel (w1 := (w1.alloc (.cells #[.slice a1 10 c1] 45)).drew) (bal hb1 _).drew hb2) hz _) hb3
end Go.Proofs.Ytpccdlpkaflioaa
