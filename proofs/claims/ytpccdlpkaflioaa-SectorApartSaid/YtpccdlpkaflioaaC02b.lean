/- Contracts of slices.Repeat, sector.New, Tear, Write. -/
import Derived.Test.YtpccdlpkaflioaaC02
import Derived.Test.YtpccdlpkaflioaaM03
import Derived.Test.YtpccdlpkaflioaaShelf
import Derived.Deep.OwnRows
import Derived.Deep.RegionLaw
import Derived.Deep.QuietTactic
import Derived.BigQuiet
set_option linter.unusedVariables false
set_option linter.unusedSimpArgs false
namespace Go.Proofs.Ytpccdlpkaflioaa
open Go.RowKit
def emptyS : ByteArray := ⟨#[]⟩
/-- The first k are z, the others empty. -/
def fillR (n k : Nat) (z : ByteArray) : List Value := strs (List.replicate k z ++ List.replicate (n - k) emptyS)
theorem fillR_len (n k : Nat) (z : ByteArray) (h : k ≤ n) : (fillR n k z).length = n := by simp [fillR, strs]; omega
theorem strs_one (l : List ByteArray) : ∀ v ∈ strs l, v.oneCell' = true := by
  intro v hv
  obtain ⟨b, _, rfl⟩ := List.mem_map.1 hv
  rfl
theorem fillR_splice (n k j : Nat) (z : ByteArray) (h : k + j ≤ n) : splice (fillR n k z) k (strs (List.replicate j z)) = fillR n (k + j) z := by
  unfold fillR strs
  rw [← List.map_append.symm, show n - k = j + (n - (k + j)) by omega, ← List.replicate_append_replicate, List.map_append, List.map_append, splice_mid _ _ _ _ k (by simp) (by simp), ← List.map_append, ← List.map_append, ← List.append_assoc, List.replicate_append_replicate, List.map_append]
theorem make_strs (n : Nat) (hn : n ≤ 1000) (W : World) : (Instr.makeSlice 43 (.int .i64 (n : Int)) (.int .i64 (n : Int))).run Try.prog W = .ok (.slice (some ⟨W.heap.size, 0, none⟩) n n) (W.alloc (.cells (fillR n 0 emptyS).toArray 9)) := by
  have := run_make_row' (P := Try.prog) 43 9 (.string ⟨#[]⟩) 16 Try.underlying43 (by kernel_rfl) rfl .i64 .i64 n (by omega) (by omega) W
  rw [this]
  have e : madeCells #[Value.string ⟨#[]⟩] n = (fillR n 0 emptyS).toArray := by
    apply Array.ext'
    rw [toList_madeCells_one]
    simp [fillR, strs, emptyS]
  rw [e]
theorem fillR_zero (n : Nat) (z : ByteArray) : fillR n 0 emptyS = fillR n 0 z := by simp [fillR]
set_option maxHeartbeats 400000 in
theorem sRepeat_any (z : ByteArray) (n g : Nat) (w : World) (hk : w.heap[g]? = some (.cells #[.string z] 9 (0, 0))) (h1 : 1 ≤ n) (hn : n ≤ 1000) :
    Calls Try.prog 50 #[.slice (some ⟨g, 0, none⟩) 1 1, .int .i64 n] w fun e w' => ∃ v, e = .returned v ∧ SlAt w' v 1 n (strs (List.replicate n z)) ∧ FreshV w.heap.size v ∧ Below w.heap.size w w' := by
  have hmk := make_strs n hn
  have hmul := fun W => Try.bits_Mul 1 n (by omega) (by omega) W
  rw [Nat.one_mul, show n / 18446744073709551616 = 0 from Nat.div_eq_of_lt (by omega), Nat.mod_eq_of_lt (by omega)] at hmul
  have HM := Lib.hid hmul
  clear hmul
  have q1 : (n : Int) % 18446744073709551616 = n := by omega
  have HN : Hid ((strs (List.replicate 1 z)).length = Nat.min 1 n) := by
    show 1 = min 1 n
    omega
  have HSRC : Hid (∀ j v, (strs (List.replicate 1 z))[j]? = some v → (w.alloc (.cells (fillR n 0 emptyS).toArray 9)).cell? ((⟨g, 0, none⟩ : Addr).add j) = some v) := by
    intro j v hv
    match j with
    | 0 =>
      have e : Value.string z = v := by simpa [strs] using hv
      subst e
      exact blk_cell (blk_alloc _ hk) rfl
    | j + 1 => simp [strs] at hv
  have HFIT : Hid (0 + (strs (List.replicate 1 z)).length ≤ (fillR n 0 emptyS).length) := by
    show 0 + 1 ≤ _
    rw [fillR_len _ _ _ (by omega)]
    omega
  have q2 : decide ((9223372036854775807 : Int) < n) = false := by simp; omega
  have q3 : decide ((n : Int) < 0) = false := by simp
  have q4 : (strs [z]).length = 1 := rfl
  go_enter Try.func50, Try.ntmps50
  go_wp2_with (first
    | (go_at_call 56; refine (HM.out _).mono ?_; rintro e w' ⟨rfl, hw'⟩; replace hw' := hw'.symm; subst hw')
    | ((with_reducible refine gate 33 rfl ?_); refine wpList_copy_splice rfl (.tmp 31) (.tmp 32) 43 43 rfl 9 Try.underlying43 (by kernel_rfl) (some ⟨w.heap.size, 0, none⟩) (some ⟨g, 0, none⟩) n n 1 1 rfl rfl w.heap.size 0 (fillR n 0 emptyS) 9 (blk_new w _) (strs (List.replicate 1 z)) HN.out (fun _ => ⟨rfl, _, rfl, HSRC.out⟩) HFIT.out (strs_one _) w.heap.size w (bal (Below.refl _ _) _) (Nat.le_refl _) ?_; intro w2 HG2 hb2))
  have HG3 : Hid (w2.heap[w.heap.size]? = some (.cells (fillR n 1 z).toArray 9 (0, 0))) := by
    have h := HG2.out
    rw [fillR_zero n z, fillR_splice n 0 1 z (by omega)] at h
    exact h
  clear HG2 hmk HN HFIT HSRC
  go_loopw [8] (fun s8 wr => ∃ k : Nat, 1 ≤ k ∧ k ≤ n ∧ s8 = .int .i64 k ∧ Hid (wr.heap[w.heap.size]? = some (.cells (fillR n k z).toArray 9 (0, 0))) ∧ Below w.heap.size w wr) (fun s8 _ => n - (intOf s8).toNat)
  case atStart => exact ⟨1, by omega, by omega, rfl, HG3, hb2⟩
  case round =>
    obtain ⟨k, hk1, hkn, rfl, HG, hbel⟩ := hrel
    by_cases hlt : k < n
    · obtain ⟨j, hj⟩ : ∃ j, j = min k (n - k) := ⟨_, rfl⟩
      have hjk : j ≤ k := by rw [hj]; exact Nat.min_le_left _ _
      have hjn : j ≤ n - k := by rw [hj]; exact Nat.min_le_right _ _
      have HN : Hid ((strs (List.replicate j z)).length = Nat.min k (n - k)) := by
        show _ = min k (n - k)
        simp [strs, hj]
      have HSRC : Hid (∀ i v, (strs (List.replicate j z))[i]? = some v → wr.drew.cell? ((⟨w.heap.size, 0, none⟩ : Addr).add i) = some v) := by
        intro i v hv
        have hadd : (⟨w.heap.size, 0, none⟩ : Addr).add i = ⟨w.heap.size, i, none⟩ := by unfold Addr.add; split <;> simp_all
        rw [hadd]
        refine blk_cell (W := wr.drew) HG.out ?_
        have hij : i < j := by
          have := (List.getElem?_eq_some_iff.1 hv).1
          simpa [strs] using this
        have hv' : v = Value.string z := by simpa [strs, hij] using hv.symm
        rw [hv', List.getElem?_toArray]
        unfold fillR strs
        rw [List.getElem?_map, List.getElem?_append_left (by rw [List.length_replicate]; omega), List.getElem?_replicate, if_pos (by omega)]
        rfl
      have HFIT : Hid (k + (strs (List.replicate j z)).length ≤ (fillR n k z).length) := by
        show _ ≤ _
        rw [fillR_len _ _ _ hkn, strs_len, List.length_replicate]
        omega
      have hne : ¬ n = k := by omega
      have hne' : ¬ k = n := by omega
      have HJ := Lib.hid hj
      clear hj
      have hl : (strs (List.replicate j z)).length = j := by rw [strs_len, List.length_replicate]
      have hwr : IntKind.i64.wrap ((k : Int) + j) = ((k + j : Nat) : Int) := by rw [IntKind.wrap_i64]; omega
      have HGd : Hid (wr.drew.heap[w.heap.size]? = some (.cells (fillR n k z).toArray 9 (0, 0))) := HG.out
      have HZ : Hid ((Try.prog.info? 9).map (·.size) = some 1) := by
        show (Try.prog.info? 9).map (·.size) = some 1
        kernel_rfl
      go_wp2_with fail
      go_region_law (refine step_copy_splice rfl (.tmp 41) (.tmp 44) 43 43 rfl 9 Try.underlying43 HZ.out (some ⟨w.heap.size, k, none⟩) (some ⟨w.heap.size, 0, none⟩) (n - k) (n - k) k n (by go_simp) (by go_simp) w.heap.size k (fillR n k z) 9 HGd.out (strs (List.replicate j z)) HN.out (fun _ => ⟨rfl, _, rfl, HSRC.out⟩) HFIT.out (strs_one _) w.heap.size w hbel.drew (Nat.le_refl _) ?_; intro w3 HG4 hb4)
      simp only [Act.put, List.setIfInBounds_toArray, List.set_cons_succ, List.set_cons_zero, List.getElem?_toArray, List.getElem?_cons_succ, List.getElem?_cons_zero, Option.bind_some, List.getElem_toArray, List.getElem_cons_succ, List.getElem_cons_zero]
      go_wp2
      go_roundw
      case rel =>
        refine ⟨k + j, by omega, by omega, ?_, ?_, hb4⟩
        · rfl
        · have h := HG4.out
          rw [fillR_splice n k j z (by omega)] at h
          exact h
      case measure =>
        have := HJ.out
        simp [intOf]
        omega
    · obtain rfl : k = n := by omega
      go_wp2
      go_ret
      have hf : fillR k k z = strs (List.replicate k z) := by simp [fillR]
      have h := HG.out
      rw [hf] at h
      exact ⟨_, rfl, ⟨by rw [strs_len, List.length_replicate, Nat.mul_one], _, _, rfl, Nat.le_refl _, by unfold maxLen; omega, .inr ⟨_, 0, rfl, blk_lt h, fun j u hu => by rw [Nat.zero_add]; exact blk_cell h (by rw [List.getElem?_toArray]; exact hu)⟩⟩, fun b hb => Nat.le_of_eq (Option.some.inj hb), hbel⟩
def z128 : ByteArray := ⟨(zeros 128).toArray⟩
def newL (n : Int) : List ByteArray := if 10 ≤ n ∧ n ≤ 130 then List.replicate n.toNat z128 else []
def newE (n : Int) : Int := if 10 ≤ n ∧ n ≤ 130 then 0 else 2
theorem repeatL_zero : Lib.repeatL (ByteArray.mk #[0]).data.toList 128 = zeros 128 := by decide +kernel
def DiskRes (w : World) (xs : List ByteArray) (k : Int) (e : Ending) (w' : World) : Prop := ∃ v, e = .returned (.tuple #[.agg #[v], .int .i64 k]) ∧ SlAt w' v 1 xs.length (strs xs) ∧ FreshV w.heap.size v ∧ Below w.heap.size w w'
theorem new_any (n : Int) (w : World) :
    Calls Try.prog 30 #[.int .i64 n] w (DiskRes w (newL n) (newE n)) := by
  by_cases h : 10 ≤ n ∧ n ≤ 130
  · obtain ⟨k, rfl⟩ := Int.eq_ofNat_of_zero_le (show 0 ≤ n by omega)
    have he : newE k = 0 := if_pos h
    have hl : newL k = List.replicate k z128 := if_pos h
    rw [he, hl]
    clear he hl
    have hrep := fun W => Try.strings_Repeat ⟨#[0]⟩ 128 W (by omega) (by decide)
    rw [repeatL_zero] at hrep
    have HR := Lib.hid hrep
    clear hrep
    have h10 : (10 : Int) ≤ k := h.1
    have h130 : (k : Int) ≤ 130 := h.2
    clear h
    go_enter Try.func30, Try.ntmps30
    go_wp2_with (first
      | (go_at_call 51; refine (HR.out _).mono ?_; rintro e w1 ⟨rfl, hb1⟩; have K1 := Lib.hid (blk_call hb1 (blk_new w _)))
      | (go_at_call 50; refine (sRepeat_any z128 k _ _ (blk_new w1 _) (by omega) (by omega)).mono ?_; rintro e w2 ⟨v, rfl, hv, hfv, hb2⟩; obtain ⟨a, c, rfl, hac, hcm⟩ := hv.form; have K2 := Lib.hid (blk_call hb2 (blk_alloc _ K1.out)); have e1 := blk_cell K2.out (j := 0) rfl; have e2 := blk_free K2.out 0))
    refine bodyPost_ret (v := .tuple #[.agg #[.slice a k c], .int .i64 0]) ?_ rfl ?_
    · simp [results, Try.results30, go_sem, e1]
    · have HS := hv
      have hz : w.heap.size < w1.heap.size := size_lt hb1 (by simp)
      exact ⟨_, rfl, by rw [List.length_replicate]; exact HS.store (fun b hb => by have := hfv b hb; simp at this ⊢; omega) _, hfv.mono (by simp; omega), bset (bel (bal (bel (bal (Below.refl _ _) _) hb1) _) hb2) (Nat.le_refl _) _⟩
  · have he : newE n = 2 := if_neg h
    have hl : newL n = [] := if_neg h
    rw [he, hl]
    clear he hl
    by_cases h1 : n < 10
    · go_enter Try.func30, Try.ntmps30
      go_wp2
      refine bodyPost_ret (v := .tuple #[.agg #[.slice none 0 0], .int .i64 2]) ?_ rfl ?_
      · simp [results, Try.results30, go_sem]
      · exact ⟨_, rfl, SlAt.nil _ _, FreshV.nil _ _ _, by first | exact bset (bal (Below.refl _ _) _) (Nat.le_refl _) _ | exact bal (Below.refl _ _) _⟩
    · have h2 : 130 < n := by omega
      go_enter Try.func30, Try.ntmps30
      go_wp2
      refine bodyPost_ret (v := .tuple #[.agg #[.slice none 0 0], .int .i64 2]) ?_ rfl ?_
      · simp [results, Try.results30, go_sem]
      · exact ⟨_, rfl, SlAt.nil _ _, FreshV.nil _ _ _, by first | exact bset (bal (Below.refl _ _) _) (Nat.le_refl _) _ | exact bal (Below.refl _ _) _⟩
end Go.Proofs.Ytpccdlpkaflioaa
