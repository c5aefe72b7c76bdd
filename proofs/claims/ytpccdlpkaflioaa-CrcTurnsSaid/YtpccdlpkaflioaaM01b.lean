/- Plain facts on CRC sums: texts that differ in four bytes side by side have unlike sums. No program in sight. -/
import Derived.Test.YtpccdlpkaflioaaM01
set_option linter.unusedVariables false
set_option linter.unusedSimpArgs false
namespace Go.Proofs.Ytpccdlpkaflioaa
open Go.RowKit
theorem xor_nat (a b : Nat) (ha : a < 4294967296) (hb : b < 4294967296) : bits .xor .u32 (a : Int) (b : Int) = ((a ^^^ b : Nat) : Int) := by
  have := xor_u32 (BitVec.ofNat 32 a) (BitVec.ofNat 32 b)
  rw [BitVec.toNat_ofNat, BitVec.toNat_ofNat, Nat.mod_eq_of_lt (by omega), Nat.mod_eq_of_lt (by omega)] at this
  rw [this, BitVec.toNat_xor, BitVec.toNat_ofNat, BitVec.toNat_ofNat, Nat.mod_eq_of_lt (by omega), Nat.mod_eq_of_lt (by omega)]
theorem xor_lt32 {a b : Nat} (ha : a < 4294967296) (hb : b < 4294967296) : a ^^^ b < 4294967296 := Nat.xor_lt_two_pow (n := 32) ha hb
def nbit (r : Nat) : Nat := if r % 2 = 1 then r / 2 ^^^ 3988292384 else r / 2
def niter (k r : Nat) : Nat := match k with | 0 => r | k + 1 => nbit (niter k r)
def nmore (r : Nat) (l : List Nat) : Nat := l.foldl (fun r b => niter 8 (r ^^^ b)) r
theorem nbit_lt {r : Nat} (h : r < 4294967296) : nbit r < 4294967296 := by
  unfold nbit
  split
  · exact xor_lt32 (by omega) (by omega)
  · omega
theorem niter_lt {r : Nat} (h : r < 4294967296) : ∀ k, niter k r < 4294967296
  | 0 => h
  | k + 1 => nbit_lt (niter_lt h k)
theorem cbit_nat {r : Nat} (h : r < 4294967296) : cbit (r : Int) = (nbit r : Int) := by
  rw [cbit_ref _ (by omega) (by omega)]
  unfold nbit
  by_cases hr : r % 2 = 1
  · rw [if_pos (by omega), if_pos hr, show ((r : Int) / 2) = ((r / 2 : Nat) : Int) by omega, show (3988292384 : Int) = ((3988292384 : Nat) : Int) from rfl, xor_nat _ _ (by omega) (by omega)]
  · rw [if_neg (by omega), if_neg hr]
    omega
theorem iter_nat {r : Nat} (h : r < 4294967296) : ∀ k, iter cbit k (r : Int) = (niter k r : Int)
  | 0 => rfl
  | k + 1 => by
    show cbit (iter cbit k (r : Int)) = _
    rw [iter_nat h k, cbit_nat (niter_lt h k)]
    rfl
theorem cmore_nat (l : List UInt8) : ∀ {r : Nat}, r < 4294967296 → cmore (r : Int) l = (nmore r (l.map UInt8.toNat) : Int) := by
  induction l with
  | nil => intro r _; rfl
  | cons b l ih =>
    intro r h
    have hb : b.toNat < 4294967296 := by have := b.toNat_lt; omega
    show cmore (cstep r b.toNat) l = _
    unfold cstep
    rw [xor_nat _ _ h hb, iter_nat (xor_lt32 h hb) 8, ih (niter_lt (xor_lt32 h hb) 8)]
    rfl
theorem nmore_lt (l : List Nat) (hl : ∀ b ∈ l, b < 256) : ∀ {r : Nat}, r < 4294967296 → nmore r l < 4294967296 := by
  induction l with
  | nil => intro r h; exact h
  | cons b l ih =>
    intro r h
    have hb : b < 4294967296 := by have := hl b (by simp); omega
    exact ih (fun c hc => hl c (by simp [hc])) (niter_lt (xor_lt32 h hb) 8)
theorem nbit_inj {a b : Nat} (ha : a < 4294967296) (hb : b < 4294967296) (h : nbit a = nbit b) : a = b := by
  have top : ∀ x, x < 2147483648 → ¬ (x ^^^ 3988292384) < 2147483648 := by
    intro x hx hlt
    have h1 : (x ^^^ 3988292384).testBit 31 = false := Nat.testBit_lt_two_pow (by simpa using hlt)
    rw [Nat.testBit_xor, Nat.testBit_lt_two_pow (show x < 2 ^ 31 by simpa using hx)] at h1
    exact absurd h1 (by decide)
  unfold nbit at h
  split at h <;> split at h
  · have := congrArg (· ^^^ 3988292384) h
    simp only [Nat.xor_assoc, Nat.xor_self, Nat.xor_zero] at this
    omega
  · exact absurd (show a / 2 ^^^ 3988292384 < 2147483648 by omega) (top _ (by omega))
  · exact absurd (show b / 2 ^^^ 3988292384 < 2147483648 by omega) (top _ (by omega))
  · omega
theorem niter_inj {a b : Nat} (ha : a < 4294967296) (hb : b < 4294967296) : ∀ k, niter k a = niter k b → a = b
  | 0, h => h
  | k + 1, h => niter_inj ha hb k (nbit_inj (niter_lt ha k) (niter_lt hb k) h)
theorem xor_two_mul (x y : Nat) : (x ^^^ 2 * y) / 2 = x / 2 ^^^ y ∧ (x ^^^ 2 * y) % 2 = x % 2 := by
  constructor
  · have := Nat.shiftRight_xor_distrib (a := x) (b := 2 * y) (i := 1)
    simp only [Nat.shiftRight_eq_div_pow, Nat.pow_one] at this
    rw [this, Nat.mul_div_cancel_left _ (by omega)]
  · have := Nat.xor_mod_two_pow (a := x) (b := 2 * y) (n := 1)
    simpa using this
theorem nbit_shift (x y : Nat) : nbit (x ^^^ 2 * y) = nbit x ^^^ y := by
  unfold nbit
  rw [(xor_two_mul x y).1, (xor_two_mul x y).2]
  split
  · rw [Nat.xor_assoc, Nat.xor_comm y, ← Nat.xor_assoc]
  · rfl
theorem niter_shift (x y : Nat) : ∀ k, niter k (x ^^^ 2 ^ k * y) = niter k x ^^^ y
  | 0 => by simp [niter]
  | k + 1 => by
    show nbit _ = _
    have : 2 ^ (k + 1) * y = 2 ^ k * (2 * y) := by rw [Nat.pow_succ, Nat.mul_assoc]
    rw [this, niter_shift x (2 * y) k, nbit_shift]
    rfl
/-- A few bytes as one number. -/
def word : List Nat → Nat
  | [] => 0
  | b :: l => b ^^^ 256 * word l
def rounds : Nat → Nat → Nat
  | 0, r => r
  | m + 1, r => rounds m (niter 8 r)
theorem nmore_word (l : List Nat) : ∀ r, nmore r l = rounds l.length (r ^^^ word l) := by
  induction l with
  | nil => intro r; simp [nmore, word, rounds]
  | cons b l ih =>
    intro r
    show nmore (niter 8 (r ^^^ b)) l = rounds l.length (niter 8 (r ^^^ (b ^^^ 256 * word l)))
    rw [ih, ← Nat.xor_assoc, show 256 * word l = 2 ^ 8 * word l from rfl, niter_shift]
theorem rounds_inj : ∀ (m : Nat) {a b : Nat}, a < 4294967296 → b < 4294967296 → rounds m a = rounds m b → a = b
  | 0, _, _, _, _, h => h
  | m + 1, _, _, ha, hb, h => niter_inj ha hb 8 (rounds_inj m (niter_lt ha 8) (niter_lt hb 8) h)
theorem word_lt : ∀ (l : List Nat), (∀ b ∈ l, b < 256) → word l < 2 ^ (8 * l.length)
  | [], _ => by simp [word]
  | b :: l, h => by
    have h1 := word_lt l fun c hc => h c (by simp [hc])
    have h2 := h b (by simp)
    have e : 2 ^ (8 * (b :: l).length) = 256 * 2 ^ (8 * l.length) := by
      rw [List.length_cons, show 8 * (l.length + 1) = 8 + 8 * l.length by omega, Nat.pow_add]
    have hp : 0 < 2 ^ (8 * l.length) := Nat.pow_pos (by omega)
    refine Nat.xor_lt_two_pow ?_ ?_
    · rw [e]
      exact Nat.lt_of_lt_of_le h2 (Nat.le_mul_of_pos_right _ hp)
    · rw [e]
      omega
theorem word_inj : ∀ (l m : List Nat), l.length = m.length → (∀ b ∈ l, b < 256) → (∀ b ∈ m, b < 256) → word l = word m → l = m
  | [], [], _, _, _, _ => rfl
  | b :: l, c :: m, hn, hl, hm, h => by
    have hb := hl b (by simp)
    have hc := hm c (by simp)
    have h' : b ^^^ 256 * word l = c ^^^ 256 * word m := h
    have lo : ∀ x y : Nat, x < 256 → (x ^^^ 256 * y) % 256 = x ∧ (x ^^^ 256 * y) / 256 = y := by
      intro x y hx
      constructor
      · have := Nat.xor_mod_two_pow (a := x) (b := 256 * y) (n := 8)
        simp only [show (2 : Nat) ^ 8 = 256 from rfl, Nat.mul_mod_right, Nat.xor_zero] at this
        rw [this]
        omega
      · have := Nat.shiftRight_xor_distrib (a := x) (b := 256 * y) (i := 8)
        simp only [Nat.shiftRight_eq_div_pow, show (2 : Nat) ^ 8 = 256 from rfl] at this
        rw [this, Nat.mul_div_cancel_left _ (by omega), Nat.div_eq_of_lt hx, Nat.zero_xor]
    have e1 : b = c := by rw [← (lo b (word l) hb).1, h', (lo c (word m) hc).1]
    have e2 : word l = word m := by rw [← (lo b (word l) hb).2, h', (lo c (word m) hc).2]
    rw [e1, word_inj l m (by simpa using hn) (fun x hx => hl x (by simp [hx])) (fun x hx => hm x (by simp [hx])) e2]
theorem nmore_append (r : Nat) (l m : List Nat) : nmore r (l ++ m) = nmore (nmore r l) m := by simp [nmore]
theorem nmore_inj (l : List Nat) (hl : ∀ b ∈ l, b < 256) : ∀ {a b : Nat}, a < 4294967296 → b < 4294967296 → nmore a l = nmore b l → a = b := by
  induction l with
  | nil => intro a b _ _ h; exact h
  | cons x l ih =>
    intro a b ha hb h
    have hx : x < 4294967296 := by have := hl x (by simp); omega
    have h1 := ih (fun c hc => hl c (by simp [hc])) (niter_lt (xor_lt32 ha hx) 8) (niter_lt (xor_lt32 hb hx) 8) h
    have h2 := niter_inj (xor_lt32 ha hx) (xor_lt32 hb hx) 8 h1
    have h3 := congrArg (· ^^^ x) h2
    simpa [Nat.xor_assoc] using h3
/-- Texts of one length that differ in four bytes side by side, or fewer. -/
theorem nmore_mid (r : Nat) (hr : r < 4294967296) (p m n q : List Nat) (hp : ∀ b ∈ p, b < 256) (hm : ∀ b ∈ m, b < 256) (hn : ∀ b ∈ n, b < 256) (hq : ∀ b ∈ q, b < 256) (hl : m.length = n.length) (h4 : m.length ≤ 4) :
    nmore r (p ++ m ++ q) = nmore r (p ++ n ++ q) ↔ m = n := by
  constructor
  · intro h
    rw [nmore_append, nmore_append, nmore_append, nmore_append] at h
    have hs := nmore_lt p hp hr
    have h1 := nmore_inj q hq (nmore_lt m hm hs) (nmore_lt n hn hs) h
    rw [nmore_word m, nmore_word n, hl] at h1
    have w32 : ∀ l : List Nat, l.length ≤ 4 → (∀ b ∈ l, b < 256) → word l < 4294967296 := fun l h4 hl => by
      refine Nat.lt_of_lt_of_le (word_lt l hl) ?_
      show 2 ^ (8 * l.length) ≤ 2 ^ 32
      exact Nat.pow_le_pow_right (by omega) (by omega)
    have h2 := rounds_inj _ (xor_lt32 hs (w32 m h4 hm)) (xor_lt32 hs (w32 n (by omega) hn)) h1
    have h3 := congrArg (nmore r p ^^^ ·) h2
    simp only [← Nat.xor_assoc, Nat.xor_self, Nat.zero_xor] at h3
    exact word_inj m n hl hm hn h3
  · intro h
    rw [h]
theorem crcMore_mid (s : Int) (p m n q : List UInt8) (hl : m.length = n.length) (h4 : m.length ≤ 4) :
    crcMore s (p ++ m ++ q) = crcMore s (p ++ n ++ q) ↔ m = n := by
  have b256 : ∀ l : List UInt8, ∀ b ∈ l.map UInt8.toNat, b < 256 := fun l b hb => by
    obtain ⟨c, _, rfl⟩ := List.mem_map.1 hb
    exact c.toNat_lt
  obtain ⟨r, hr, hr'⟩ : ∃ r : Nat, r < 4294967296 ∧ 4294967295 - s % 4294967296 = (r : Int) := ⟨(4294967295 - s % 4294967296).toNat, by omega, by omega⟩
  unfold crcMore
  rw [hr', cmore_nat _ hr, cmore_nat _ hr]
  have key := nmore_mid r hr (p.map UInt8.toNat) (m.map UInt8.toNat) (n.map UInt8.toNat) (q.map UInt8.toNat) (b256 p) (b256 m) (b256 n) (b256 q) (by simpa using hl) (by simpa using h4)
  simp only [List.map_append] at key ⊢
  have inj : m.map UInt8.toNat = n.map UInt8.toNat ↔ m = n := by
    constructor
    · intro h
      exact List.map_inj_right (fun a b e => UInt8.toNat_inj.1 e) |>.1 h
    · intro h; rw [h]
  rw [← inj, ← key]
  omega
end Go.Proofs.Ytpccdlpkaflioaa
