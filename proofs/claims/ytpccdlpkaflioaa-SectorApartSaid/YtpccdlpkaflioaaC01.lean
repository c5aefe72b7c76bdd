/- Contracts of the functions of layer 1 (crc), of its reference and of its statements' own helpers. -/
import Derived.Test.YtpccdlpkaflioaaChecked
import Derived.Test.YtpccdlpkaflioaaM01
import Derived.WalkKit
import Derived.LoopTactic
import Derived.Outline
import Derived.Lib.Hide
set_option linter.unusedVariables false
set_option linter.unusedSimpArgs false
namespace Go.Proofs.Ytpccdlpkaflioaa
open Go.RowKit
theorem start_e (s : Int) : bits .xor .u32 IntKind.u32.max (bits .and .i64 s 4294967295 % 4294967296) = 4294967295 - s % 4294967296 := by
  rw [and32_i64, show IntKind.u32.max = 4294967295 from rfl, not_u32 _ (by omega) (by omega)]
  omega

theorem startref_e (s : Int) : bits .xor .u32 IntKind.u32.max ((IntKind.u64.wrap s).tmod 4294967296 % 4294967296) = 4294967295 - s % 4294967296 := by
  have e : (IntKind.u64.wrap s).tmod 4294967296 % 4294967296 = s % 4294967296 := by
    rw [show IntKind.u64.wrap s = s % 18446744073709551616 by simp [IntKind.wrap, IntKind.bits, IntKind.signed], Int.tmod_eq_emod_of_nonneg (by omega)]
    omega
  rw [e, show IntKind.u32.max = 4294967295 from rfl, not_u32 _ (by omega) (by omega)]
theorem more1_any (b r : Int) (g : Nat) (w : World) (hc : w.cell? ⟨g,0,none⟩ = some (.int .u32 r)) (hf : w.frozen? ⟨g,0,none⟩ = false) (h0 : 0 ≤ r) (h1 : r < 4294967296) (hb0 : 0 ≤ b) (hb : b < 256) :
    Calls Try.prog 45 #[.int .u8 b, .pointer (some ⟨g,0,none⟩)] w fun e w' => e = .returned (.tuple #[]) ∧ w' = w.setCell ⟨g,0,none⟩ (.int .u32 (cstep r b)) := by
  go_enter Try.func45, Try.ntmps45
  go_wp2
  go_loopw [7] (fun i wr => ∃ k : Nat, k ≤ 8 ∧ i = .int .i64 k ∧ wr = w.setCell ⟨g,0,none⟩ (.int .u32 (iter cbit k (bits BinOp.xor IntKind.u32 r b)))) (fun i _ => 8 - (intOf i).toNat)
  case atStart => exact ⟨0, by omega, rfl, rfl⟩
  case round =>
    obtain ⟨k, hk, rfl, rfl⟩ := hrel
    have hr := iter_range cbit cbit_range _ (bits_u32_range .xor (.inl rfl) r b) k
    by_cases hlt : k < 8
    · go_wp2
      refine ⟨⟨k+1, by omega, by go_num, ?_⟩, by simp [intOf]; omega⟩
      rw [setCell_setCell]; rfl
    · obtain rfl : k = 8 := by omega
      go_wp2
      go_end0
      exact ⟨rfl, rfl⟩

theorem take_snoc (s : ByteArray) (k : Nat) (h : k < s.size) : s.data.toList.take (k + 1) = s.data.toList.take k ++ [s[k]] := by
  rw [List.take_succ_eq_append_getElem (by simpa using h)]; rfl
theorem more_any (s : Int) (t : ByteArray) (w : World) (ht : t.size ≤ maxLen) :
    Calls Try.prog 17 #[.int .i64 s, .string t] w fun e w' => e = .returned (.int .i64 (crcMore s t.data.toList)) ∧ Below w.heap.size w w' := by
  unfold maxLen at ht
  go_enter Try.func17, Try.ntmps17
  go_wp2
  go_loopw [7, 15] (fun _ i wr => ∃ k : Nat, k ≤ t.size ∧ i = .int .i64 k ∧ wr = w.alloc (.cells #[.int .u32 (cmore (4294967295 - s % 4294967296) (t.data.toList.take k))] 64)) (fun _ i _ => t.size - (intOf i).toNat)
  case atStart => exact ⟨0, by omega, rfl, by rw [start_e]; rfl⟩
  case round =>
    obtain ⟨k, hk, rfl, rfl⟩ := hrel
    have hr := cmore_range (4294967295 - s % 4294967296) (t.data.toList.take k) (by omega)
    by_cases hlt : k < t.size
    · go_wp2_with (go_at_call 45; refine (more1_any _ _ _ _ (by go_simp) (by go_simp) hr.1 hr.2 (by omega) (by have := (t[k]).toNat_lt; omega)).mono ?_; rintro e w' ⟨rfl, rfl⟩)
      refine ⟨⟨k+1, by omega, by go_num, ?_⟩, by simp [intOf]; omega⟩
      rw [take_snoc t k hlt, cmore_snoc]
    · obtain rfl : k = t.size := by omega
      go_wp2
      go_ret
      refine ⟨ret_int ?_, (Below.refl _ _).alloc (Nat.le_refl _) _⟩
      rw [show IntKind.u32.max = 4294967295 from rfl, not_u32 _ hr.1 hr.2, List.take_of_length_le (by simp)]
      have := crcMore_range s t.data.toList
      unfold crcMore at this ⊢
      unfold wrap64
      omega

theorem sum_any (t : ByteArray) (w : World) (ht : t.size ≤ maxLen) :
    Calls Try.prog 15 #[.string t] w fun e w' => e = .returned (.int .i64 (crcMore 0 t.data.toList)) ∧ Below w.heap.size w w' := by
  go_enter Try.func15, Try.ntmps15
  go_wp2_with (go_at_call 17; refine (more_any _ _ _ ht).mono ?_; rintro e w' ⟨rfl, hb⟩)
  go_ret
  exact ⟨rfl, hb⟩

theorem refstep_any (b r : Int) (w : World) (h0 : 0 ≤ r) (h1 : r < 4294967296) (hb0 : 0 ≤ b) (hb : b < 256) :
    Calls Try.prog 46 #[.int .u32 r, .int .u8 b] w fun e w' => e = .returned (.int .u32 (cstep r b)) ∧ w = w' := by
  have hx := bits_u32_range .xor (.inl rfl) r b
  go_enter Try.func46, Try.ntmps46
  go_wp2
  go_loop [0, 5] (fun x i => ∃ k : Nat, k ≤ 8 ∧ i = .int .i64 k ∧ x = .int .u32 (iter cbit k (bits BinOp.xor IntKind.u32 r b))) (fun _ i => 8 - (intOf i).toNat)
  case atStart => exact ⟨0, by omega, rfl, rfl⟩
  case round =>
    obtain ⟨k, hk, rfl, rfl⟩ := hrel
    have hr := iter_range cbit cbit_range _ hx k
    have e := cbit_ref _ hr.1 hr.2
    have e' : iter cbit (k + 1) (bits BinOp.xor IntKind.u32 r b) = cbit (iter cbit k (bits BinOp.xor IntKind.u32 r b)) := rfl
    rw [← e'] at e
    have E := Lib.hid e
    clear e e'
    by_cases hlt : k < 8
    · go_wp2
      all_goals
        go_round
        case rel => exact ⟨k + 1, by omega, by go_num, by rw [E.out]; first | rw [if_pos (eq_of_beq ‹(_ == _) = true›)] | rw [if_neg (ne_of_beq_false ‹(_ == _) = false›)]⟩
        case measure => simp [intOf]; omega
    · obtain rfl : k = 8 := by omega
      go_wp2
      go_ret
      exact ⟨rfl, rfl⟩

theorem refmore_any (s : Int) (t : ByteArray) (w : World) (ht : t.size ≤ maxLen) :
    Calls Try.prog 18 #[.int .i64 s, .string t] w fun e w' => e = .returned (.int .i64 (crcMore s t.data.toList)) ∧ w = w' := by
  unfold maxLen at ht
  go_enter Try.func18, Try.ntmps18
  go_wp2
  go_loop [5, 6] (fun x i => ∃ k : Nat, k ≤ t.size ∧ i = .int .i64 k ∧ x = .int .u32 (cmore (4294967295 - s % 4294967296) (t.data.toList.take k))) (fun _ i => t.size - (intOf i).toNat)
  case atStart => exact ⟨0, by omega, rfl, by rw [startref_e]; rfl⟩
  case round =>
    obtain ⟨k, hk, rfl, rfl⟩ := hrel
    have hr := cmore_range (4294967295 - s % 4294967296) (t.data.toList.take k) (by omega)
    by_cases hlt : k < t.size
    · have E := Lib.hid (take_snoc t k hlt)
      go_wp2_with (go_at_call 46; refine (refstep_any _ _ _ hr.1 hr.2 (by omega) (by have := (t[k]).toNat_lt; omega)).mono ?_; rintro e w' ⟨rfl, rfl⟩)
      go_round
      case rel => exact ⟨k+1, by omega, by go_num, by rw [E.out, cmore_snoc]⟩
      case measure => simp [intOf]; omega
    · obtain rfl : k = t.size := by omega
      go_wp2
      go_ret
      refine ⟨ret_int ?_, rfl⟩
      rw [show IntKind.u32.max = 4294967295 from rfl, not_u32 _ hr.1 hr.2, List.take_of_length_le (by simp)]
      have := crcMore_range s t.data.toList
      unfold crcMore at this ⊢
      unfold wrap64
      omega
theorem refsum_any (t : ByteArray) (w : World) (ht : t.size ≤ maxLen) :
    Calls Try.prog 16 #[.string t] w fun e w' => e = .returned (.int .i64 (crcMore 0 t.data.toList)) ∧ w = w' := by
  go_enter Try.func16, Try.ntmps16
  go_wp2_with (go_at_call 18; refine (refmore_any _ _ _ ht).mono ?_; rintro e w' ⟨rfl, rfl⟩)
  go_ret
  exact ⟨rfl, rfl⟩
theorem four_any (s : Int) (w : World) :
    Calls Try.prog 19 #[.int .i64 s] w fun e w' => e = .returned (.string ⟨(crcFour s).toArray⟩) ∧ Below w.heap.size w w' := by
  have hc4 := fun (a b c d : Int) (W : World) => run_lit Try.underlying25 Try.underlying5 Try.underlying9 [a, b, c, d] W
  simp only [List.length_cons, List.length_nil, List.map_cons, List.map_nil, Nat.zero_add] at hc4
  go_enter Try.func19, Try.ntmps19
  go_wp2
  go_ret
  exact ⟨rfl, (Below.refl _ _).alloc (Nat.le_refl _) _⟩
theorem reffour_any (s : Int) (w : World) :
    Calls Try.prog 20 #[.int .i64 s] w fun e w' => e = .returned (.string ⟨(crcFour s).toArray⟩) ∧ Below w.heap.size w w' := by
  have hc4 := fun (a b c d : Int) (W : World) => run_lit Try.underlying25 Try.underlying5 Try.underlying9 [a, b, c, d] W
  simp only [List.length_cons, List.length_nil, List.map_cons, List.map_nil, Nat.zero_add] at hc4
  go_enter Try.func20, Try.ntmps20
  go_wp2
  go_ret
  exact ⟨ret_str (by rw [reffour_e, four_eq]), (Below.refl _ _).alloc (Nat.le_refl _) _⟩
theorem few01_any (s : ByteArray) (w : World) (ht : s.size ≤ maxLen) :
    Calls Try.prog 13 #[.string s] w fun e w' => e = .returned (.string (s.extract 0 300)) ∧ w = w' := by
  unfold maxLen at ht
  go_enter Try.func13, Try.ntmps13
  go_wp2
  all_goals
    go_ret
    refine ⟨?_, rfl⟩
    first | rfl | (rw [ext0_all _ _ (by omega)]; rfl)
theorem alive01_any (w : World) :
    Calls Try.prog 14 #[] w fun e w' => e = .returned (.bool true) ∧ Below w.heap.size w w' := by
  have h : crcMore 0 (ByteArray.mk #[49, 50, 51, 52, 53, 54, 55, 56, 57]).data.toList = 3421780262 := by decide +kernel
  have H := Lib.hid h
  clear h
  go_enter Try.func14, Try.ntmps14
  go_wp2_with (go_at_call 15; refine (sum_any _ _ (by decide)).mono ?_; rw [H.out]; rintro e w' ⟨rfl, hb⟩)
  go_ret
  exact ⟨rfl, hb⟩
end Go.Proofs.Ytpccdlpkaflioaa
