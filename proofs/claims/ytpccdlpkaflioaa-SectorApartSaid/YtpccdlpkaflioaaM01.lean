/- Plain facts on 32-bit registers and CRC sums; no program in sight. -/
import Derived.Test.YtpccdlpkaflioaaM00
import Derived.Laws.BitsLemmas
import Derived.Laws.Entries
import Derived.WalkKit
import Derived.Laws.BytesArg
set_option linter.unusedVariables false
set_option linter.unusedSimpArgs false
namespace Go.Proofs.Ytpccdlpkaflioaa
open Go.RowKit
theorem setCell_setCell (w : World) (a : Addr) (v v' : Value) : (w.setCell a v).setCell a v' = w.setCell a v' := by
  unfold World.setCell
  simp only [World.mk.injEq, and_true, true_and]
  apply Array.ext
  · simp
  · intro i h1 h2
    simp only [Array.getElem_modify]
    by_cases h : a.block = i
    · simp only [h, if_true]
      cases hc : w.heap[i]'(by simpa using h2) <;> simp only []
      split <;> simp
    · simp [h]

/-- string(b), b a literal slice of bytes. -/
theorem run_lit {P : Program} {src dst e : TypeId} (hs : P.underlying src = some (.slice e)) (he : P.underlying e = some (.int .u8)) (hd : P.underlying dst = some .string) (xs : List Int) (w : World) :
    (convert src dst (.slice (some ⟨w.heap.size, 0, none⟩) xs.length xs.length)).run P (w.alloc (.cells (xs.map (Value.int .u8)).toArray e)) = .ok (.string (strOfNums xs)) (w.alloc (.cells (xs.map (Value.int .u8)).toArray e)) := by
  refine run_convert_bytes_arg _ src e hs he _ 0 _ _ xs rfl (fun i hi => ?_) dst hd
  simp only [World.cell?, World.alloc]
  simp [List.getD_eq_getElem?_getD, List.getElem?_eq_getElem hi]
theorem strOfNums_eq (xs : List Int) : strOfNums xs = ⟨(xs.map fun x => UInt8.ofNat x.toNat).toArray⟩ := rfl

/-! ### bits of 32 -/
theorem bits_u32_range (op : BinOp) (h : op = .xor ∨ op = .and ∨ op = .or) (a b : Int) : 0 ≤ bits op .u32 a b ∧ bits op .u32 a b < 4294967296 := by
  unfold bits
  rw [IntKind.wrap_u32]
  omega
theorem ofInt_toNat32 (x : BitVec 32) : BitVec.ofInt 32 (x.toNat : Int) = x := by
  apply BitVec.eq_of_toInt_eq
  simp [BitVec.toInt_ofInt, BitVec.toInt_eq_toNat_bmod]
theorem xor_def (a b : Int) : bits .xor .u32 a b = ((BitVec.ofInt 32 a ^^^ BitVec.ofInt 32 b).toNat : Int) % 4294967296 := by
  unfold bits
  rw [IntKind.wrap_u32]
  rfl
theorem and_def (a b : Int) : bits .and .u32 a b = ((BitVec.ofInt 32 a &&& BitVec.ofInt 32 b).toNat : Int) % 4294967296 := by
  unfold bits
  rw [IntKind.wrap_u32]
  rfl
theorem xor_u32 (x y : BitVec 32) : bits .xor .u32 (x.toNat : Int) (y.toNat : Int) = ((x ^^^ y).toNat : Int) := by
  rw [xor_def, ofInt_toNat32, ofInt_toNat32]
  have := (x ^^^ y).isLt
  omega
theorem and_u32 (x y : BitVec 32) : bits .and .u32 (x.toNat : Int) (y.toNat : Int) = ((x &&& y).toNat : Int) := by
  rw [and_def, ofInt_toNat32, ofInt_toNat32]
  have := (x &&& y).isLt
  omega
theorem int32_bv (a : Int) (h0 : 0 ≤ a) (h1 : a < 4294967296) : ∃ x : BitVec 32, a = (x.toNat : Int) :=
  ⟨BitVec.ofNat 32 a.toNat, by simp; omega⟩
theorem not_u32 (a : Int) (h0 : 0 ≤ a) (h1 : a < 4294967296) : bits .xor .u32 4294967295 a = 4294967295 - a := by
  obtain ⟨x, rfl⟩ := int32_bv a h0 h1
  have := xor_u32 (BitVec.allOnes 32) x
  rw [show ((BitVec.allOnes 32).toNat : Int) = 4294967295 by decide] at this
  rw [this]
  have h2 : (BitVec.allOnes 32 ^^^ x) = ~~~x := BitVec.allOnes_xor
  rw [h2, BitVec.toNat_not]
  have := x.isLt
  omega
theorem and_def64 (a b : Int) : bits .and .i64 a b = (((BitVec.ofInt 64 a &&& BitVec.ofInt 64 b).toNat : Int) + 9223372036854775808) % 18446744073709551616 - 9223372036854775808 := by
  unfold bits
  rw [IntKind.wrap_i64]
  rfl
theorem and32_i64 (s : Int) : bits .and .i64 s 4294967295 = s % 4294967296 := by
  rw [and_def64]
  have e : BitVec.ofInt 64 4294967295 = BitVec.ofNat 64 (2 ^ 32 - 1) := by decide
  have e2 : (BitVec.ofInt 64 s &&& BitVec.ofNat 64 (2 ^ 32 - 1)).toNat = (BitVec.ofInt 64 s).toNat % 2 ^ 32 := by
    rw [BitVec.toNat_and]
    rw [show (BitVec.ofNat 64 (2 ^ 32 - 1)).toNat = 2 ^ 32 - 1 by decide, Nat.and_two_pow_sub_one_eq_mod]
  rw [e, e2, BitVec.toNat_ofInt]
  omega

/-! ### the register -/
def iter (f : Int → Int) : Nat → Int → Int
  | 0, r => r
  | k+1, r => f (iter f k r)
def cbit (r : Int) : Int := bits .xor .u32 (r / 2) (bits .and .u32 3988292384 (-bits .and .u32 r 1 % 4294967296))
def cstep (r b : Int) : Int := iter cbit 8 (bits .xor .u32 r b)
def cmore (r : Int) (l : List UInt8) : Int := l.foldl (fun r b => cstep r b.toNat) r
/-- The sum behind another one. -/
def crcMore (s : Int) (l : List UInt8) : Int := 4294967295 - cmore (4294967295 - s % 4294967296) l
/-- A sum's four bytes. -/
def crcFour (s : Int) : List UInt8 := [UInt8.ofNat (s / 16777216 % 256).toNat, UInt8.ofNat (s / 65536 % 256).toNat, UInt8.ofNat (s / 256 % 256).toNat, UInt8.ofNat (s % 256).toNat]
theorem four_eq (s : Int) : strOfNums [s / 16777216 % 256, s / 65536 % 256, s / 256 % 256, s % 256] = ⟨(crcFour s).toArray⟩ := rfl
theorem wrap_u64_e (n : Int) : IntKind.u64.wrap n = n % 18446744073709551616 := by simp [IntKind.wrap, IntKind.bits, IntKind.signed]
theorem reffour_e (s : Int) : strOfNums [IntKind.u64.wrap (((IntKind.u64.wrap s).tmod 4294967296).tdiv 16777216) % 256, (IntKind.u64.wrap (((IntKind.u64.wrap s).tmod 4294967296).tdiv 65536)).tmod 256 % 256, (IntKind.u64.wrap (((IntKind.u64.wrap s).tmod 4294967296).tdiv 256)).tmod 256 % 256, (IntKind.u64.wrap s).tmod 256 % 256] = strOfNums [s / 16777216 % 256, s / 65536 % 256, s / 256 % 256, s % 256] := by
  have h1 : (IntKind.u64.wrap s).tmod 4294967296 = s % 4294967296 := by
    rw [wrap_u64_e, Int.tmod_eq_emod_of_nonneg (by omega)]
    omega
  have h3 : (IntKind.u64.wrap s).tmod 256 % 256 = s % 256 := by
    rw [wrap_u64_e, Int.tmod_eq_emod_of_nonneg (by omega)]
    omega
  rw [h1, h3]
  have h2 : ∀ d : Int, (s % 4294967296).tdiv d = (s % 4294967296) / d := fun d => Int.tdiv_eq_ediv_of_nonneg (by omega)
  simp only [h2, wrap_u64_e]
  rw [Int.tmod_eq_emod_of_nonneg (by omega), Int.tmod_eq_emod_of_nonneg (by omega)]
  rw [show s % 4294967296 / 16777216 % 18446744073709551616 % 256 = s / 16777216 % 256 by omega, show s % 4294967296 / 65536 % 18446744073709551616 % 256 % 256 = s / 65536 % 256 by omega, show s % 4294967296 / 256 % 18446744073709551616 % 256 % 256 = s / 256 % 256 by omega]
theorem cbit_range (r : Int) : 0 ≤ cbit r ∧ cbit r < 4294967296 := by unfold cbit; exact bits_u32_range _ (.inl rfl) _ _
theorem iter_range (f : Int → Int) (h : ∀ r, 0 ≤ f r ∧ f r < 4294967296) (r : Int) (h0 : 0 ≤ r ∧ r < 4294967296) : ∀ k, 0 ≤ iter f k r ∧ iter f k r < 4294967296
  | 0 => h0
  | _+1 => h _
theorem cstep_range (r b : Int) : 0 ≤ cstep r b ∧ cstep r b < 4294967296 := iter_range _ cbit_range _ (bits_u32_range _ (.inl rfl) _ _) 8
theorem cmore_range (r : Int) (l : List UInt8) (h : 0 ≤ r ∧ r < 4294967296) : 0 ≤ cmore r l ∧ cmore r l < 4294967296 := by
  induction l generalizing r with
  | nil => exact h
  | cons b l ih => exact ih _ (cstep_range r b.toNat)
theorem cmore_snoc (r : Int) (l : List UInt8) (b : UInt8) : cmore r (l ++ [b]) = cstep (cmore r l) b.toNat := by simp [cmore]
theorem cmore_append (r : Int) (l m : List UInt8) : cmore r (l ++ m) = cmore (cmore r l) m := by simp [cmore]
theorem crcMore_range (s : Int) (l : List UInt8) : 0 ≤ crcMore s l ∧ crcMore s l < 4294967296 := by
  have := cmore_range (4294967295 - s % 4294967296) l (by omega)
  unfold crcMore
  omega
theorem crcMore_join (s : Int) (l m : List UInt8) : crcMore s (l ++ m) = crcMore (crcMore s l) m := by
  have h := cmore_range (4294967295 - s % 4294967296) l (by omega)
  unfold crcMore
  rw [cmore_append, show 4294967295 - (4294967295 - cmore (4294967295 - s % 4294967296) l) % 4294967296 = cmore (4294967295 - s % 4294967296) l by omega]
/-- As the reference has it. -/
theorem cbit_ref (r : Int) (h0 : 0 ≤ r) (h1 : r < 4294967296) : cbit r = if r % 2 = 1 then bits .xor .u32 (r / 2) 3988292384 else r / 2 := by
  obtain ⟨x, rfl⟩ := int32_bv r h0 h1
  have ea : bits .and .u32 (x.toNat : Int) 1 = (x.toNat : Int) % 2 := by
    have := and_u32 x 1
    rw [show (((1 : BitVec 32).toNat : Nat) : Int) = 1 by decide] at this
    rw [this, BitVec.toNat_and, show (1 : BitVec 32).toNat = 2 ^ 1 - 1 by decide, Nat.and_two_pow_sub_one_eq_mod]
    omega
  unfold cbit
  rw [ea]
  rcases Int.emod_two_eq (x.toNat : Int) with h | h
  · rw [h, if_neg (by decide)]
    have e1 : bits .and .u32 3988292384 (-0 % 4294967296) = 0 := by decide +kernel
    rw [e1]
    obtain ⟨y, hy⟩ := int32_bv ((x.toNat : Int) / 2) (by omega) (by omega)
    rw [hy]
    have := xor_u32 y 0
    rw [show (((0 : BitVec 32).toNat : Nat) : Int) = 0 by decide] at this
    rw [this]
    simp
  · rw [h, if_pos rfl]
    have e1 : bits .and .u32 3988292384 (-1 % 4294967296) = 3988292384 := by decide +kernel
    rw [e1]
end Go.Proofs.Ytpccdlpkaflioaa
