/- The walk of CrcTurns. -/
import Derived.Test.YtpccdlpkaflioaaL01
import Derived.Test.YtpccdlpkaflioaaM01c
import Derived.Lib.ConvBytes
import Derived.Laws.IdiomArrays
import Derived.OpenShut
set_option linter.unusedVariables false
set_option linter.unusedSimpArgs false
namespace Go.Proofs.Ytpccdlpkaflioaa
open Go.RowKit
theorem few01_to (s t : ByteArray) (w : World) (hs : s.size ≤ maxLen) (ht : Hid (t = s.extract 0 300)) :
    Calls Try.prog 13 #[.string s] w fun e w' => e = .returned (.string t) ∧ w = w' := by
  rw [ht.out]
  exact few01_any s w hs
theorem index_of (a : Int) (n : Nat) (h : 0 < n) (h300 : n ≤ 300) (h1 : (Lit.int .i64 a).wf = true) : ∃ p : Nat, (wrap64 (a.tmod n + n)).tmod n = (p : Int) ∧ p < n := by
  have hb : -(n : Int) < a.tmod n ∧ a.tmod n < n := by
    have h1 := Int.tmod_lt_of_pos a (show (0 : Int) < n by omega)
    have h2 := Int.lt_tmod_of_pos a (show (0 : Int) < n by omega)
    omega
  have hw : wrap64 (a.tmod n + n) = a.tmod n + n := by unfold wrap64; omega
  rw [hw, Int.tmod_eq_emod_of_nonneg (by omega)]
  have h3 := Int.emod_nonneg (a.tmod n + n) (show (n : Int) ≠ 0 by omega)
  have h4 := Int.emod_lt_of_pos (a.tmod n + n) (show (0 : Int) < n by omega)
  exact ⟨((a.tmod n + n) % n).toNat, by omega, by omega⟩
theorem turn_step {W : World} {g n p k : Nat} {t : List UInt8} {bs : List Int} (hc : ∀ j, j < n → W.cell? ⟨g, j, none⟩ = some (.int .u8 (turnAt t p bs k j))) (hin : p + k < n) {v : Int} (hv : v = bits .xor .u8 (turnAt t p bs k (p + k)) (bs.getD k 0)) :
    ∀ j, j < n → (W.setCell ⟨g, p + k, none⟩ (.int .u8 v)).cell? ⟨g, j, none⟩ = some (.int .u8 (turnAt t p bs (k + 1) j)) := by
  intro j hj
  by_cases e : j = p + k
  · subst e
    rw [cell_set_same (by rw [hc _ hin]; rfl), hv]
    unfold turnAt
    rw [if_neg (by omega), if_pos (by omega), show p + k - p = k by omega]
  · rw [cell_set_other _ (by simp [e]) rfl rfl, hc j hj]
    unfold turnAt
    by_cases h2 : p ≤ j ∧ j < p + k
    · rw [if_pos h2, if_pos (by omega)]
    · rw [if_neg h2, if_neg (by omega)]
theorem turn_stay {n p k : Nat} {t : List UInt8} {bs : List Int} (hin : ¬ p + k < n) (j : Nat) (hj : j < n) : turnAt t p bs (k + 1) j = turnAt t p bs k j := by
  unfold turnAt
  by_cases h2 : p ≤ j ∧ j < p + k
  · rw [if_pos h2, if_pos (by omega)]
  · rw [if_neg h2, if_neg (by omega)]
theorem strOf_turned (t : List UInt8) (p : Nat) (bs : List Int) : strOfNums ((List.range t.length).map (turnAt t p bs 4)) = ⟨(turned t p bs).toArray⟩ := by
  rw [strOfNums_eq]
  unfold turned
  rw [List.map_map]
  rfl
theorem CrcTurns_empty (a0 : ByteArray) (a1 : Int) (b0 b1 b2 b3 : Int) (hs : a0.size = 0) (w : World) :
    Calls Try.prog 3 #[.string a0, .int .i64 a1, .agg #[.int .u8 b0, .int .u8 b1, .int .u8 b2, .int .u8 b3]] w fun e w' => e = .returned (.bool true) ∧ Below w.heap.size w w' := by
  have hs' : a0.size ≤ maxLen := by rw [hs]; exact Nat.zero_le _
  have he : a0 = ByteArray.empty := by
    apply ByteArray.ext
    exact Array.eq_empty_of_size_eq_zero hs
  have ht : Hid (ByteArray.empty = a0.extract 0 300) := by rw [he]; rfl
  have e0 : ByteArray.empty.toList.isEmpty = true := by decide +kernel
  clear hs he
  go_enter Try.func3, Try.ntmps3
  go_wp2_with (first
    | (go_at_call 13; refine (few01_to _ _ _ hs' ht).mono ?_; rintro e w' ⟨rfl, rfl⟩)
    | (go_at_call 14; refine (alive01_any _).mono ?_; rintro e w1 ⟨rfl, hb1⟩))
  go_ret
  exact ⟨rfl, bel ((Below.refl _ _).alloc (Nat.le_refl _) _) hb1⟩
theorem CrcTurns_some (a0 t : ByteArray) (a1 : Int) (b0 b1 b2 b3 : Int) (hs : a0.size ≤ maxLen) (ht : Hid (t = a0.extract 0 300)) (h : 0 < t.size) (h300 : t.size ≤ 300) (h1 : (Lit.int .i64 a1).wf = true)
    (hb0 : 0 ≤ b0 ∧ b0 < 256) (hb1 : 0 ≤ b1 ∧ b1 < 256) (hb2 : 0 ≤ b2 ∧ b2 < 256) (hb3 : 0 ≤ b3 ∧ b3 < 256) (w : World) :
    Calls Try.prog 3 #[.string a0, .int .i64 a1, .agg #[.int .u8 b0, .int .u8 b1, .int .u8 b2, .int .u8 b3]] w fun e w' => e = .returned (.bool true) ∧ Below w.heap.size w w' := by
  have hl2 : ¬ t = ByteArray.empty := by rintro rfl; exact absurd h (by decide)
  have hl : t.toList.isEmpty = false := by
    rw [ByteArray.toList_eq]
    rw [← len_data] at h
    cases hh : t.data.toList
    · rw [hh] at h; exact absurd h (by decide)
    · rfl
  obtain ⟨p, hp⟩ : ∃ p : Nat, (wrap64 (a1.tmod t.size + t.size)).tmod t.size = (p : Int) ∧ p < t.size := index_of a1 t.size h h300 h1
  obtain ⟨hp, hpn⟩ := hp
  have hconv := fun W => Lib.run_convert_string_bytes (P := Try.prog) W 9 25 5 t Try.underlying9 Try.underlying25 Try.underlying5
  obtain ⟨W0, hW0⟩ : ∃ W0, W0 = w.alloc (.cells #[.int .u8 b0, .int .u8 b1, .int .u8 b2, .int .u8 b3] 22) := ⟨_, rfl⟩
  have hz0 : W0.heap.size = w.heap.size + 1 := by rw [hW0]; simp
  have ho : ∀ j, (Lib.bytesWorld W0 5 t).cell? ⟨w.heap.size, j, none⟩ = W0.cell? ⟨w.heap.size, j, none⟩ := fun j => Lib.bytesWorld_old _ _ _ _ (by show w.heap.size < _; omega)
  have hb0W : Below w.heap.size w (Lib.bytesWorld W0 5 t) := bytes_below (by rw [hW0]; exact (Below.refl _ _).alloc (Nat.le_refl _) _) (by omega) _ _
  have hcell : ∀ j, j < t.size → (Lib.bytesWorld W0 5 t).cell? ⟨w.heap.size + 1, j, none⟩ = some (.int .u8 (turnAt t.data.toList p [b0, b1, b2, b3] 0 j)) := fun j hj => by
    rw [← hz0, Lib.bytesWorld_cell _ _ _ _ hj]
    unfold turnAt
    rw [if_neg (by omega)]
  have hfroz : ∀ j, j < t.size → (Lib.bytesWorld W0 5 t).frozen? ⟨w.heap.size + 1, j, none⟩ = false := fun j hj => by
    rw [← hz0]
    exact bytes_free _ _ _ _ hj
  have hn : W0.heap[w.heap.size]? = some (.cells #[.int .u8 b0, .int .u8 b1, .int .u8 b2, .int .u8 b3] 22 (0, 0)) := by rw [hW0]; exact blk_new _ _
  have c0 := ho 0
  have c1 := ho 1
  have c2 := ho 2
  have c3 := ho 3
  clear ho
  rw [blk_cell hn (v := .int .u8 b0) rfl] at c0
  rw [blk_cell hn (v := .int .u8 b1) rfl] at c1
  rw [blk_cell hn (v := .int .u8 b2) rfl] at c2
  rw [blk_cell hn (v := .int .u8 b3) rfl] at c3
  clear hn
  have ik : ∀ k : Nat, k < 4 → ∀ w, (Instr.index 22 (.agg #[.int .u8 b0, .int .u8 b1, .int .u8 b2, .int .u8 b3]) (.int .i64 k)).run Try.prog w = .ok (.int .u8 ([b0, b1, b2, b3].getD k 0)) w := fun k hk => by
    have : k = 0 ∨ k = 1 ∨ k = 2 ∨ k = 3 := by omega
    rcases this with rfl | rfl | rfl | rfl <;> exact fun _ => by kernel_rfl
  have hbs : ∀ k : Nat, 0 ≤ [b0, b1, b2, b3].getD k 0 ∧ [b0, b1, b2, b3].getD k 0 < 256 := fun k => by
    match k with
    | 0 => exact hb0
    | 1 => exact hb1
    | 2 => exact hb2
    | 3 => exact hb3
    | k + 4 => exact ⟨by simp, by simp⟩
  have IK := Lib.hid ik
  clear ik
  subst hW0
  go_enter Try.func3, Try.ntmps3
  go_wp2_with (first
    | (go_at_call 13; refine (few01_to _ _ _ hs ht).mono ?_; rintro e w' ⟨rfl, rfl⟩))
  have P1 := Lib.hid hp
  clear hp c0 c1 c2 c3
  generalize hbs4 : [b0, b1, b2, b3] = bs at *
  go_loopw [8, 9, 10, 29] (fun s8 _ _ i wr => ∃ k : Nat, k ≤ 4 ∧ i = .int .i64 k ∧ s8 = .bool (sameB t.size p bs k) ∧ (∀ j, j < t.size → wr.cell? ⟨w.heap.size + 1, j, none⟩ = some (.int .u8 (turnAt t.data.toList p bs k j))) ∧ (∀ j, j < t.size → wr.frozen? ⟨w.heap.size + 1, j, none⟩ = false) ∧ Below w.heap.size w wr) (fun _ _ _ i _ => 4 - (intOf i).toNat)
  case atStart => exact ⟨0, by omega, rfl, rfl, hcell, hfroz, hb0W⟩
  case round =>
    obtain ⟨k, hk, rfl, rfl, hc, hf, hbel⟩ := hrel
    by_cases hlt : k < 4
    · have ik := IK.out k hlt
      by_cases hin : p + k < t.size
      · have hcp := hc (p + k) hin
        have hfp := hf (p + k) hin
        have HC := Lib.hid hc
        have HF := Lib.hid hf
        clear hc hf
        go_wp2
        all_goals
          refine ⟨⟨k + 1, by omega, by go_num, ?_, turn_step HC.out hin (by simp [List.getD]), fun j hj => (frozen_set _ _ _ _).trans (HF.out j hj), hbel.setCell (by simp) _⟩, by simp [intOf]; omega⟩
          simp only [sameB, hin, if_true]
          simp_all
      · go_wp2
        refine ⟨⟨k + 1, by omega, by go_num, ?_, fun j hj => by rw [turn_stay hin j hj]; exact hc j hj, hf, hbel⟩, by simp [intOf]; omega⟩
        simp only [sameB, hin, if_false]
    · obtain rfl : k = 4 := by omega
      have hrun := fun W' (hb : Below wr.heap.size wr W') (hg : w.heap.size + 1 < wr.heap.size) => run_convert_bytes_arg (P := Try.prog) W' 25 5 Try.underlying25 Try.underlying5 (w.heap.size + 1) 0 t.size (grownCap (w.alloc (.cells #[.int .u8 b0, .int .u8 b1, .int .u8 b2, .int .u8 b3] 22)) t.size 0 5) ((List.range t.data.toList.length).map (turnAt t.data.toList p bs 4)) (by rw [List.length_map, List.length_range, len_data]) (fun i hi => by
        rw [hb.cell hg, Nat.zero_add, hc i hi, List.getD_eq_getElem?_getD, List.getElem?_map, List.getElem?_range (by rw [len_data]; exact hi)]
        rfl) 9 Try.underlying9
      have hg : w.heap.size + 1 < wr.heap.size := World.block_lt_of_cell? wr _ (hc p hpn)
      have hsame := turned_same t.data.toList p bs (by rw [len_data]; exact hpn) hbs
      rw [len_data] at hsame
      have hts : (ByteArray.mk (turned t.data.toList p bs).toArray).size ≤ maxLen := by
        show (turned t.data.toList p bs).toArray.size ≤ maxLen
        rw [List.size_toArray]
        simp only [turned, List.length_map, List.length_range, len_data, maxLen]
        omega
      have htm : t.size ≤ maxLen := by unfold maxLen; omega
      simp only [strOf_turned] at hrun
      generalize turned t.data.toList p bs = X at *
      clear hc hf hcell hfroz hb0W hz0 IK hconv
      go_wp2_with (first
        | (go_at_call 14; refine (alive01_any _).mono ?_; rintro e w1 ⟨rfl, hb1⟩; have hr1 := hrun _ hb1 hg)
        | (go_at_call 15; refine (sum_any _ _ (by assumption)).mono ?_; rintro e w2 ⟨rfl, hb2⟩))
      go_ret
      exact ⟨rfl, bel (bel (bel hbel hb1) (by assumption)) (by assumption)⟩
theorem CrcTurns_walk (a0 : ByteArray) (a1 : Int) (v2 : Value) (a2 : Int × Int × Int × Int) (w : World) (hs : a0.size ≤ maxLen) (h1 : (Lit.int .i64 a1).wf = true)
    (h2 : v2 = .agg #[.int .u8 a2.1, .int .u8 a2.2.1, .int .u8 a2.2.2.1, .int .u8 a2.2.2.2] ∧ (0 ≤ a2.1 ∧ a2.1 < 256) ∧ (0 ≤ a2.2.1 ∧ a2.2.1 < 256) ∧ (0 ≤ a2.2.2.1 ∧ a2.2.2.1 < 256) ∧ (0 ≤ a2.2.2.2 ∧ a2.2.2.2 < 256)) :
    Calls Try.prog 3 #[.string a0, .int .i64 a1, v2] w fun e w' => e = .returned (.bool true) ∧ Below w.heap.size w w' := by
  obtain ⟨rfl, hb0, hb1, hb2, hb3⟩ := h2
  rcases Nat.eq_zero_or_pos a0.size with h | h
  · exact CrcTurns_empty a0 a1 _ _ _ _ h w
  · exact CrcTurns_some a0 _ a1 _ _ _ _ hs rfl (by rw [ByteArray.size_extract]; omega) (by rw [ByteArray.size_extract]; omega) h1 hb0 hb1 hb2 hb3 w
end Go.Proofs.Ytpccdlpkaflioaa
