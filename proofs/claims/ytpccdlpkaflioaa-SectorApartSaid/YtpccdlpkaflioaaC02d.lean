/- Contracts of sector.Write, seal.Torn. -/
import Derived.Test.YtpccdlpkaflioaaC02c
set_option linter.unusedVariables false
set_option linter.unusedSimpArgs false
namespace Go.Proofs.Ytpccdlpkaflioaa
open Go.RowKit
theorem write_any (v : Value) (xs : List ByteArray) (i : Int) (t : ByteArray) (w : World) (hS : SlAt w v 1 xs.length (strs xs)) :
    Calls Try.prog 32 #[.agg #[v], .int .i64 i, .string t] w (DiskRes w (tearL xs i t 128) (tearE xs i t 128)) := by
  obtain ⟨a, c, rfl, hnc, hcm⟩ := hS.form
  have HS := Lib.hid hS
  clear hS
  have htear := fun W (h : SlAt W (Value.slice a xs.length c) 1 xs.length (strs xs)) => tear_any _ xs i t 128 W h
  obtain ⟨L, hL⟩ : ∃ L, L = tearL xs i t 128 := ⟨_, rfl⟩
  obtain ⟨E, hE⟩ : ∃ E, E = tearE xs i t 128 := ⟨_, rfl⟩
  rw [← hL, ← hE] at htear ⊢
  clear hL hE
  have HT := Lib.hid htear
  clear htear
  go_enter Try.func32, Try.ntmps32
  go_wp2_with (go_at_call 33; refine (HT.out _ ((HS.out.alloc _).alloc _)).mono ?_; rintro e w1 ⟨v', rfl, hs1, hf1, hb1⟩; obtain ⟨a1, c1, rfl, hn1, hm1⟩ := hs1.form; have K1 := Lib.hid (blk_call hb1 (blk_new2 w _ _)); have e1 := blk_cell K1.out (j := 0) rfl; have e2 := blk_free K1.out 0)
  refine bodyPost_ret (v := .tuple #[.agg #[.slice a1 L.length c1], .int .i64 E]) ?_ rfl ?_
  · simp [results, Try.results32, go_sem, e1]
  · refine ⟨_, rfl, hs1.store (fun b hb => ?_) _, hf1.mono (by simp; omega), bset (bel (bal (bal (Below.refl _ _) _) _) hb1) (Nat.le_succ _) _⟩
    have := hf1 b hb
    simp at this
    show b ≠ w.heap.size + 1
    omega
def tornE (x t : ByteArray) (k : Int) : Int := if x.size ≠ 128 ∨ t.size ≠ 128 then 2 else if k < 0 ∨ 128 < k then 1 else 0
def tornS (x t : ByteArray) (k : Int) : ByteArray := if tornE x t k = 0 then over x t k.toNat else ⟨#[]⟩
def disk10 (x : ByteArray) : List ByteArray := x :: List.replicate 9 z128
theorem z128_size : z128.size = 128 := by decide +kernel
theorem disk10_right (x : ByteArray) (h : x.size = 128) : rightD (disk10 x) = true := by
  unfold rightD
  rw [decide_eq_true (by simp [disk10]), decide_eq_true (by simp [disk10])]
  have hb : ∀ y ∈ disk10 x, badSize y = false := by
    intro y hy
    have : y.size = 128 := by
      rcases List.mem_cons.1 hy with rfl | hy
      · exact h
      · rw [(List.mem_replicate.1 hy).2]; exact z128_size
    unfold badSize
    rw [this]
    rfl
  have : (disk10 x).any badSize = false := List.any_eq_false.2 fun y hy => by rw [hb y hy]; simp
  rw [this]
  rfl
theorem disk10_may (x : ByteArray) (h : x.size = 128) : mayD (disk10 x) 0 = 0 := mayD_in (disk10_right x h) (by omega) (by simp [disk10])
theorem new10 : newL 10 = disk10 z128 ∧ newE 10 = 0 := by
  refine ⟨?_, rfl⟩
  unfold newL disk10
  rw [if_pos (by decide)]
  rfl
theorem over_full (x t : ByteArray) (hx : x.size = 128) (ht : t.size = 128) : over x t 128 = t := by
  unfold over
  rw [List.take_of_length_le (by rw [len_data]; omega), List.drop_of_length_le (by rw [len_data]; omega), List.append_nil]
theorem disk10_tear (x t : ByteArray) (k : Int) (hx : x.size = 128) : tearE (disk10 x) 0 t k = tornE x t k ∧ (tornE x t k = 0 → tearL (disk10 x) 0 t k = disk10 (over x t k.toNat)) := by
  have he : tearE (disk10 x) 0 t k = tornE x t k := by
    unfold tearE tornE
    rw [if_neg (by simp [disk10_may x hx])]
    by_cases ht : t.size = 128
    · rw [if_neg (show ¬ t.size ≠ 128 by simp [ht]), if_neg (show ¬ (x.size ≠ 128 ∨ t.size ≠ 128) by simp [hx, ht])]
    · rw [if_pos ht, if_pos (.inr ht)]
  refine ⟨he, fun h0 => ?_⟩
  unfold tearL
  rw [he, if_pos h0]
  rfl
theorem disk10_write (x : ByteArray) (hx : x.size = 128) : tearL (disk10 z128) 0 x 128 = disk10 x ∧ tearE (disk10 z128) 0 x 128 = 0 := by
  have h := disk10_tear z128 x 128 z128_size
  have h0 : tornE z128 x 128 = 0 := by
    unfold tornE
    rw [if_neg (by simp [hx, z128_size]), if_neg (by omega)]
  refine ⟨?_, h.1.trans h0⟩
  rw [h.2 h0]
  show disk10 (over z128 x 128) = disk10 x
  rw [over_full _ _ z128_size hx]
theorem over_size (x t : ByteArray) (k : Nat) (hx : x.size = 128) (ht : t.size = 128) (hk : k ≤ 128) : (over x t k).size = 128 := by
  show (List.toArray _).size = 128
  rw [List.size_toArray, List.length_append, List.length_take, List.length_drop, len_data, len_data]
  omega
theorem disk10_read (x : ByteArray) (h : x.size = 128) : readD (disk10 x) 0 = x := by
  unfold readD
  rw [if_pos (disk10_may x h)]
  rfl
end Go.Proofs.Ytpccdlpkaflioaa
