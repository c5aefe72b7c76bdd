/- Plain facts on sealed sectors: their bytes, and what is opened. No program in sight. -/
import Derived.Test.YtpccdlpkaflioaaM01
import Derived.Test.YtpccdlpkaflioaaM03
set_option linter.unusedVariables false
set_option linter.unusedSimpArgs false
namespace Go.Proofs.Ytpccdlpkaflioaa
open Go.RowKit
theorem zeros_add (a b : Nat) : zeros (a + b) = zeros a ++ zeros b := by simp [zeros, List.replicate_append_replicate]
def stampL (gen no : Int) : List UInt8 := [u8 gen, u8 no]
/-- What a sector's sum is of. -/
def headL (gen no : Int) (p : List UInt8) : List UInt8 := stampL gen no ++ ([u8 p.length] ++ (p ++ zeros (96 - p.length)))
def sealL (gen no : Int) (p : List UInt8) : List UInt8 := headL gen no p ++ (crcFour (crcMore 0 (headL gen no p)) ++ (zeros 23 ++ stampL gen no))
theorem headL_len (gen no : Int) (p : List UInt8) (h : p.length ≤ 96) : (headL gen no p).length = 99 := by
  simp [headL, stampL, zeros_len]
  omega
theorem crcFour_len (x : Int) : (crcFour x).length = 4 := rfl
theorem sealL_len (gen no : Int) (p : List UInt8) (h : p.length ≤ 96) : (sealL gen no p).length = 128 := by
  simp [sealL, headL_len gen no p h, crcFour_len, zeros_len, stampL]
theorem fill_one (hd : List UInt8) (h : hd.length = 3) : splice (zeros 128) 0 hd = hd ++ zeros 125 := by
  have := splice_mid [] (zeros 3) (zeros 125) hd 0 rfl (by rw [h, zeros_len])
  simp only [List.nil_append] at this
  rw [← zeros_add] at this
  exact this
theorem fill_two (hd p : List UInt8) (h : hd.length = 3) (hp : p.length ≤ 96) : splice (hd ++ zeros 125) 3 p = (hd ++ (p ++ zeros (96 - p.length))) ++ (zeros 27 ++ zeros 2) := by
  have e : zeros 125 = zeros p.length ++ (zeros (96 - p.length) ++ (zeros 27 ++ zeros 2)) := by
    rw [← zeros_add, ← zeros_add, ← zeros_add]
    congr 1
    omega
  rw [e, splice_mid hd _ _ p 3 h (by rw [zeros_len])]
  simp only [List.append_assoc]
theorem fill_three (A st : List UInt8) (hA : A.length = 99) (hst : st.length = 2) : splice (A ++ (zeros 27 ++ zeros 2)) 126 st = A ++ (zeros 4 ++ (zeros 23 ++ st)) := by
  have := splice_mid (A ++ zeros 27) (zeros 2) [] st 126 (by simp [hA, zeros_len]) (by rw [hst, zeros_len])
  simp only [List.append_nil, List.append_assoc] at this
  rw [this, show zeros 27 = zeros 4 ++ zeros 23 from by rw [← zeros_add], List.append_assoc]
theorem fill_four (A st f : List UInt8) (hA : A.length = 99) (hf : f.length = 4) : splice (A ++ (zeros 4 ++ (zeros 23 ++ st))) 99 f = A ++ (f ++ (zeros 23 ++ st)) :=
  splice_mid A (zeros 4) _ f 99 hA (by rw [hf, zeros_len])
def stampB (gen no : Int) : Bool := decide (1 ≤ gen) && decide (gen ≤ 250) && decide (0 ≤ no) && decide (no ≤ 64)
/-- What Seal answers: the text, and why not. -/
def sealS (gen no : Int) (p : ByteArray) : ByteArray := if stampB gen no = true ∧ p.size ≤ 96 then ⟨(sealL gen no (bytesOf p)).toArray⟩ else ⟨#[]⟩
def sealE (gen no : Int) (p : ByteArray) : Int := if stampB gen no = false then 1 else if p.size ≤ 96 then 0 else 2
/-! ### what is opened -/
def at8 (x : ByteArray) (i : Nat) : Int := ((x.data.toList.getD i 0).toNat : Int)
theorem at8_range (x : ByteArray) (i : Nat) : 0 ≤ at8 x i ∧ at8 x i < 256 := by
  unfold at8
  have := (x.data.toList.getD i 0).toNat_lt
  omega
def openA (x : ByteArray) : Bool := (x.extract 0 2).toList == (x.extract 126 128).toList
def openB (x : ByteArray) : Bool := (x.extract 99 103).toList == crcFour (crcMore 0 (x.data.toList.take 99))
def partP (x : ByteArray) : ByteArray := x.extract 3 (3 + at8 x 2).toNat
def openE (x : ByteArray) : Int :=
  if x.size ≠ 128 then 2 else if openA x = false then 6 else if openB x = false then 7 else
  if 96 < at8 x 2 then 1 else if sealE (at8 x 0) (at8 x 1) (partP x) = 0 ∧ sealS (at8 x 0) (at8 x 1) (partP x) = x then 0 else 1
def openG (x : ByteArray) : Int := if openE x = 0 then at8 x 0 else 0
def openN (x : ByteArray) : Int := if openE x = 0 then at8 x 1 else 0
def openP (x : ByteArray) : ByteArray := if openE x = 0 then partP x else ⟨#[]⟩
end Go.Proofs.Ytpccdlpkaflioaa
