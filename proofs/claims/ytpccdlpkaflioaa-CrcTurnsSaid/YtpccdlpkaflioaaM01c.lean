/- Plain facts on a text that is turned at four bytes. No program in sight. -/
import Derived.Test.YtpccdlpkaflioaaM01b
set_option linter.unusedVariables false
set_option linter.unusedSimpArgs false
namespace Go.Proofs.Ytpccdlpkaflioaa
open Go.RowKit
theorem xor_def8 (a b : Int) : bits .xor .u8 a b = ((BitVec.ofInt 8 a ^^^ BitVec.ofInt 8 b).toNat : Int) % 256 := by
  unfold bits
  rw [IntKind.wrap_u8]
  rfl
theorem ofInt_toNat8 (x : BitVec 8) : BitVec.ofInt 8 (x.toNat : Int) = x := by
  apply BitVec.eq_of_toInt_eq
  simp [BitVec.toInt_ofInt, BitVec.toInt_eq_toNat_bmod]
theorem xor_u8 (x y : BitVec 8) : bits .xor .u8 (x.toNat : Int) (y.toNat : Int) = ((x ^^^ y).toNat : Int) := by
  rw [xor_def8, ofInt_toNat8, ofInt_toNat8]
  have := (x ^^^ y).isLt
  omega
theorem int8_bv (a : Int) (h0 : 0 ≤ a) (h1 : a < 256) : ∃ x : BitVec 8, a = (x.toNat : Int) :=
  ⟨BitVec.ofNat 8 a.toNat, by simp; omega⟩
theorem xor8_range (a b : Int) : 0 ≤ bits .xor .u8 a b ∧ bits .xor .u8 a b < 256 := by
  rw [xor_def8]
  omega
theorem xor8_self (a b : Int) (ha : 0 ≤ a ∧ a < 256) (hb : 0 ≤ b ∧ b < 256) : bits .xor .u8 a b = a ↔ b = 0 := by
  obtain ⟨x, rfl⟩ := int8_bv a ha.1 ha.2
  obtain ⟨y, rfl⟩ := int8_bv b hb.1 hb.2
  rw [xor_u8]
  constructor
  · intro h
    have h1 : x ^^^ y = x := BitVec.eq_of_toNat_eq (by omega)
    have h2 : x ^^^ (x ^^^ y) = x ^^^ x := by rw [h1]
    rw [← BitVec.xor_assoc, BitVec.xor_self, BitVec.zero_xor] at h2
    rw [h2]
    rfl
  · intro h
    have h1 : y = 0 := BitVec.eq_of_toNat_eq (by simpa using h)
    rw [h1]
    simp
/-- What the text has at j behind k rounds. -/
def turnAt (t : List UInt8) (p : Nat) (bs : List Int) (k j : Nat) : Int :=
  if p ≤ j ∧ j < p + k then bits .xor .u8 (t.getD j 0).toNat (bs.getD (j - p) 0) else (t.getD j 0).toNat
def sameB (n p : Nat) (bs : List Int) : Nat → Bool
  | 0 => true
  | k + 1 => if p + k < n then sameB n p bs k && (bs.getD k 0 == 0) else sameB n p bs k
theorem turnAt_range (t : List UInt8) (p : Nat) (bs : List Int) (k j : Nat) : 0 ≤ turnAt t p bs k j ∧ turnAt t p bs k j < 256 := by
  unfold turnAt
  split
  · exact xor8_range _ _
  · have := (t.getD j 0).toNat_lt
    omega
theorem sameB_iff (n p : Nat) (bs : List Int) : ∀ k, sameB n p bs k = true ↔ ∀ i, i < k → p + i < n → bs.getD i 0 = 0
  | 0 => by simp [sameB]
  | k + 1 => by
    unfold sameB
    split
    · rename_i h
      rw [Bool.and_eq_true, sameB_iff n p bs k, beq_iff_eq]
      constructor
      · rintro ⟨h1, h2⟩ i hi hn
        rcases Nat.lt_succ_iff_lt_or_eq.1 hi with h3 | rfl
        · exact h1 i h3 hn
        · exact h2
      · intro h1
        exact ⟨fun i hi hn => h1 i (by omega) hn, h1 k (by omega) h⟩
    · rename_i h
      rw [sameB_iff n p bs k]
      constructor
      · intro h1 i hi hn
        exact h1 i (by omega) hn
      · intro h1 i hi hn
        exact h1 i (by omega) hn
def turned (t : List UInt8) (p : Nat) (bs : List Int) : List UInt8 := (List.range t.length).map fun j => UInt8.ofNat (turnAt t p bs 4 j).toNat
theorem turned_same (t : List UInt8) (p : Nat) (bs : List Int) (hp : p < t.length) (hbs : ∀ k : Nat, 0 ≤ bs.getD k 0 ∧ bs.getD k 0 < 256) :
    (crcMore 0 (turned t p bs) == crcMore 0 t) = sameB t.length p bs 4 := by
  have hlen : (turned t p bs).length = t.length := by simp [turned]
  have hget : ∀ j (h : j < (turned t p bs).length), (turned t p bs)[j] = UInt8.ofNat (turnAt t p bs 4 j).toNat := fun j h => by simp [turned]
  have hout : ∀ j (h : j < t.length), ¬ (p ≤ j ∧ j < p + 4) → (turned t p bs)[j]'(by omega) = t[j] := fun j h hn => by
    rw [hget]
    unfold turnAt
    rw [if_neg hn, List.getD_eq_getElem?_getD, List.getElem?_eq_getElem h]
    simp
  have e1 : (turned t p bs).take p = t.take p := by
    apply List.ext_getElem (by simp [hlen])
    intro i h1 h2
    simp only [List.getElem_take]
    simp only [List.length_take] at h1 h2
    exact hout i (by omega) (by omega)
  have e2 : (turned t p bs).drop (p + 4) = t.drop (p + 4) := by
    apply List.ext_getElem (by simp [hlen])
    intro i h1 h2
    simp only [List.getElem_drop]
    simp only [List.length_drop] at h1 h2
    exact hout _ (by omega) (by omega)
  have split3 : ∀ l : List UInt8, l = l.take p ++ (l.drop p).take 4 ++ l.drop (p + 4) := fun l => by
    rw [List.append_assoc, show l.drop (p + 4) = (l.drop p).drop 4 by rw [List.drop_drop], List.take_append_drop, List.take_append_drop]
  have key := crcMore_mid 0 (t.take p) (((turned t p bs).drop p).take 4) ((t.drop p).take 4) (t.drop (p + 4)) (by simp [hlen]) (by simp; omega)
  have s1 := split3 (turned t p bs)
  rw [e1, e2] at s1
  rw [← s1, ← split3 t] at key
  rw [Bool.eq_iff_iff, beq_iff_eq, key, sameB_iff]
  constructor
  · intro h i hi hn
    have h1 : (((turned t p bs).drop p).take 4)[i]? = ((t.drop p).take 4)[i]? := by rw [h]
    simp only [List.getElem?_take, hi, if_true, List.getElem?_drop] at h1
    rw [List.getElem?_eq_getElem (by omega), List.getElem?_eq_getElem hn] at h1
    have h2 := Option.some.inj h1
    rw [hget] at h2
    have h3 := congrArg UInt8.toNat h2
    rw [UInt8.toNat_ofNat'] at h3
    have hr := turnAt_range t p bs 4 (p + i)
    have h4 : turnAt t p bs 4 (p + i) = ((t[p + i]).toNat : Int) := by omega
    unfold turnAt at h4
    rw [if_pos (by omega), List.getD_eq_getElem?_getD, List.getElem?_eq_getElem hn, Option.getD_some, xor8_self _ _ (by have := (t[p + i]).toNat_lt; omega) (hbs _)] at h4
    rwa [show p + i - p = i by omega] at h4
  · intro h
    apply List.ext_getElem (by simp [hlen])
    intro i h1 h2
    simp only [List.length_take, List.length_drop] at h1 h2
    simp only [List.getElem_take, List.getElem_drop, hget]
    have h3 := h i (by omega) (by omega)
    have hn : p + i < t.length := by omega
    unfold turnAt
    rw [if_pos (by omega), List.getD_eq_getElem?_getD, List.getElem?_eq_getElem hn, Option.getD_some, show p + i - p = i by omega, (xor8_self _ _ (by have := (t[p + i]).toNat_lt; omega) (hbs i)).2 h3]
    simp
end Go.Proofs.Ytpccdlpkaflioaa
