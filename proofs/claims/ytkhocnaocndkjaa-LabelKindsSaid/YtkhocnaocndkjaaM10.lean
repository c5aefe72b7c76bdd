/- Labels and matchers, plain. No program in sight. -/
import Derived.Test.YtkhocnaocndkjaaM08
import Derived.Lib.Strings
set_option linter.unusedVariables false
set_option linter.unusedSimpArgs false
namespace Go.Proofs.Ytkhocnaocndkjaa
open Go.RowKit
def azB (b : UInt8) : Bool := decide (97 ≤ b.toNat) && decide (b.toNat ≤ 122)
def avB (b : UInt8) : Bool := azB b || (decide (48 ≤ b.toNat) && decide (b.toNat ≤ 57)) || decide (b.toNat = 45)
def nameB (s : ByteArray) : Bool := s.data.toList.all azB && decide (1 ≤ s.size) && decide (s.size ≤ 8)
def valB (s : ByteArray) : Bool := s.data.toList.all avB && decide (s.size ≤ 8)
theorem all_bad {p : UInt8 → Bool} {s : ByteArray} {k : Nat} (h : k < s.size) (hp : p (s[k]'h) = false) : s.data.toList.all p = false := by
  rw [List.all_eq_false]
  exact ⟨_, Array.getElem_mem_toList (xs := s.data) h, by rw [show s.data[k]'h = s[k]'h from rfl, hp]; simp⟩
theorem all_good {p : UInt8 → Bool} {s : ByteArray} (h : ∀ k (hk : k < s.size), p (s[k]'hk) = true) : s.data.toList.all p = true := by
  rw [List.all_eq_true]
  intro x hx
  obtain ⟨k, hk, rfl⟩ := List.mem_iff_getElem.1 hx
  exact h k (by simpa [len_data] using hk)
structure Lab where
  name : ByteArray
  value : ByteArray
deriving DecidableEq
def labC (x : Lab) : List Value := [.string x.name, .string x.value]
def labV (x : Lab) : Value := .agg #[.string x.name, .string x.value]
def labB (x : Lab) : Bool := nameB x.name && valB x.value
structure Mat where
  kind : Int
  name : ByteArray
  value : ByteArray
deriving DecidableEq
def matC (x : Mat) : List Value := [.int .i64 x.kind, .string x.name, .string x.value]
def matV (x : Mat) : Value := .agg #[.int .i64 x.kind, .string x.name, .string x.value]
def matB (x : Mat) : Bool := decide (0 ≤ x.kind) && decide (x.kind ≤ 3) && nameB x.name && valB x.value && (decide (x.kind ≠ 3) || decide (x.value.size = 0))
def labsC (xs : List Lab) : List Value := xs.flatMap labC
def matsC (xs : List Mat) : List Value := xs.flatMap matC
theorem flat_get {α : Type} {en : α → List Value} {sz : Nat} (hsz : ∀ x, (en x).length = sz) : ∀ (xs : List α) (i j : Nat) (h : i < xs.length), j < sz → (xs.flatMap en)[i * sz + j]? = (en xs[i])[j]?
  | x :: xs, 0, j, h, hj => by
    rw [List.flatMap_cons, List.getElem?_append_left (by rw [hsz]; omega)]
    simp
  | x :: xs, i + 1, j, h, hj => by
    rw [List.flatMap_cons, List.getElem?_append_right (by rw [hsz, Nat.succ_mul]; omega)]
    have e : (i + 1) * sz + j - (en x).length = i * sz + j := by rw [hsz, Nat.succ_mul]; omega
    rw [e, flat_get hsz xs i j (by simpa using h) hj]
    simp
theorem flat_len {α : Type} {en : α → List Value} {sz : Nat} (hsz : ∀ x, (en x).length = sz) (xs : List α) : (xs.flatMap en).length = xs.length * sz := by
  induction xs with
  | nil => simp
  | cons x xs ih => rw [List.flatMap_cons, List.length_append, ih, hsz, List.length_cons, Nat.succ_mul]; omega
theorem labs_get (xs : List Lab) (i : Nat) (h : i < xs.length) : (labsC xs)[i * 2]? = some (.string xs[i].name) ∧ (labsC xs)[i * 2 + 1]? = some (.string xs[i].value) :=
  ⟨flat_get (en := labC) (sz := 2) (fun _ => rfl) xs i 0 h (by omega), flat_get (en := labC) (sz := 2) (fun _ => rfl) xs i 1 h (by omega)⟩
theorem mats_get (xs : List Mat) (i : Nat) (h : i < xs.length) : (matsC xs)[i * 3]? = some (.int .i64 xs[i].kind) ∧ (matsC xs)[i * 3 + 1]? = some (.string xs[i].name) ∧ (matsC xs)[i * 3 + 2]? = some (.string xs[i].value) :=
  ⟨flat_get (en := matC) (sz := 3) (fun _ => rfl) xs i 0 h (by omega), flat_get (en := matC) (sz := 3) (fun _ => rfl) xs i 1 h (by omega), flat_get (en := matC) (sz := 3) (fun _ => rfl) xs i 2 h (by omega)⟩
/-! ### texts in order -/
def ltS (s t : ByteArray) : Bool := Op.bytesLess s.toList t.toList
def cmpS (s t : ByteArray) : Int := if ltS s t = true then -1 else if (s.toList == t.toList) = true then 0 else 1
theorem cmpS_lt {s t : ByteArray} (h : ltS s t = true) : cmpS s t = -1 := by unfold cmpS; rw [if_pos h]
theorem cmpS_ge {s t : ByteArray} (h : ltS s t = false) : 0 ≤ cmpS s t := by
  unfold cmpS
  rw [if_neg (by simp [h])]
  split <;> omega
theorem bytes_lt_self : ∀ l : List UInt8, Op.bytesLess l l = false
  | [] => rfl
  | a :: l => by simp [Op.bytesLess, bytes_lt_self l]
theorem bytes_lt_trans : ∀ a b c : List UInt8, Op.bytesLess a b = true → Op.bytesLess b c = true → Op.bytesLess a c = true
  | _, [], _, h, _ => by cases ‹List UInt8› <;> simp [Op.bytesLess] at h
  | [], _ :: _, [], _, h => by simp [Op.bytesLess] at h
  | [], _ :: _, _ :: _, _, _ => rfl
  | _ :: _, _ :: _, [], _, h => by simp [Op.bytesLess] at h
  | x :: a, y :: b, z :: c, h1, h2 => by
    simp only [Op.bytesLess, Bool.or_eq_true, Bool.and_eq_true, decide_eq_true_eq, beq_iff_eq] at h1 h2 ⊢
    rcases h1 with h1 | ⟨rfl, h1⟩
    · rcases h2 with h2 | ⟨rfl, h2⟩
      · exact .inl (UInt8.lt_trans h1 h2)
      · exact .inl h1
    · rcases h2 with h2 | ⟨rfl, h2⟩
      · exact .inl h2
      · exact .inr ⟨rfl, bytes_lt_trans a b c h1 h2⟩
theorem bytes_lt_total : ∀ a b : List UInt8, Op.bytesLess a b = true ∨ a = b ∨ Op.bytesLess b a = true
  | [], [] => .inr (.inl rfl)
  | [], _ :: _ => .inl rfl
  | _ :: _, [] => .inr (.inr rfl)
  | x :: a, y :: b => by
    simp only [Op.bytesLess, Bool.or_eq_true, Bool.and_eq_true, decide_eq_true_eq, beq_iff_eq]
    by_cases h : x < y
    · exact .inl (.inl h)
    · by_cases h' : y < x
      · exact .inr (.inr (.inl h'))
      · have e : x = y := UInt8.le_antisymm (UInt8.not_lt.1 h') (UInt8.not_lt.1 h)
        subst e
        rcases bytes_lt_total a b with h | rfl | h
        · exact .inl (.inr ⟨rfl, h⟩)
        · exact .inr (.inl rfl)
        · exact .inr (.inr (.inr ⟨rfl, h⟩))
theorem ltS_self (s : ByteArray) : ltS s s = false := bytes_lt_self _
theorem ltS_trans {a b c : ByteArray} (h1 : ltS a b = true) (h2 : ltS b c = true) : ltS a c = true := bytes_lt_trans _ _ _ h1 h2
theorem ltS_total (a b : ByteArray) : ltS a b = true ∨ a = b ∨ ltS b a = true := by
  rcases bytes_lt_total a.toList b.toList with h | h | h
  · exact .inl h
  · exact .inr (.inl (bytes_of_eq (by rw [h]; simp)))
  · exact .inr (.inr h)
theorem ltS_asym {a b : ByteArray} (h : ltS a b = true) : ltS b a = false := by
  cases h' : ltS b a
  · rfl
  · have := ltS_trans h h'
    rw [ltS_self] at this
    exact this.symm
/-- Names in order, each one less than the next. -/
def risesB : List Lab → Bool
  | x :: y :: r => ltS x.name y.name && risesB (y :: r)
  | _ => true
theorem rises_all : ∀ {xs : List Lab}, (∀ i (h : i + 1 < xs.length), ltS xs[i].name xs[i + 1].name = true) → risesB xs = true
  | [], _ => rfl
  | [_], _ => rfl
  | x :: y :: r, h => by
    unfold risesB
    rw [show ltS x.name y.name = true from h 0 (by simp), Bool.true_and]
    exact rises_all fun i hi => h (i + 1) (by simpa using hi)
theorem rises_at : ∀ {xs : List Lab}, risesB xs = true → ∀ i (h : i + 1 < xs.length), ltS xs[i].name xs[i + 1].name = true
  | x :: y :: r, h, 0, _ => by
    unfold risesB at h
    rw [Bool.and_eq_true] at h
    exact h.1
  | x :: y :: r, h, i + 1, hi => by
    unfold risesB at h
    rw [Bool.and_eq_true] at h
    exact rises_at h.2 i (by simpa using hi)
theorem rises_bad {xs : List Lab} {i : Nat} (h : i + 1 < xs.length) (hb : ltS xs[i].name xs[i + 1].name = false) : risesB xs = false := by
  cases e : risesB xs
  · rfl
  · rw [rises_at e i h] at hb
    exact hb
def eachB (xs : List Lab) : Bool := decide (1 ≤ xs.length) && decide (xs.length ≤ 3) && !xs.any (fun x => !labB x)
def labsB (xs : List Lab) : Bool := risesB xs && eachB xs
/-! ### matching -/
def ofB (k : Int) (v a : ByteArray) : Bool := if k = 0 then v.toList == a.toList else if k = 1 then !(v.toList == a.toList) else if k = 2 then Lib.hasPrefix v.data.toList a.data.toList else true
def isOf (m : Mat) (x : Lab) : Bool := x.name.toList == m.name.toList
def matchB (m : Mat) (xs : List Lab) : Bool := match xs.find? (isOf m) with | none => decide (m.kind = 1) | some x => ofB m.kind x.value m.value
def allB (ms : List Mat) (xs : List Lab) : Bool := !ms.any (fun m => !matchB m xs)
def allE (ms : List Mat) (xs : List Lab) : Int := if labsB xs = true ∧ ms.length ≤ 4 ∧ ms.any (fun m => !matB m) = false then 0 else 1
theorem idx_find {α : Type} (p : α → Bool) : ∀ xs : List α, (idxOf p xs = -1 ∧ xs.find? p = none) ∨ ∃ i, ∃ h : i < xs.length, idxOf p xs = i ∧ xs.find? p = some xs[i]
  | [] => .inl ⟨rfl, rfl⟩
  | x :: xs => by
    by_cases hx : p x = true
    · refine .inr ⟨0, by simp, ?_, by simp [hx]⟩
      exact idxOf_found (i := 0) (by simp) hx (fun j hj => absurd hj (by omega))
    · have hx' : p x = false := by simpa using hx
      rcases idx_find p xs with ⟨h1, h2⟩ | ⟨i, h, h1, h2⟩
      · refine .inl ⟨?_, by simp [hx', h2]⟩
        refine idxOf_none fun j hj => ?_
        cases j with
        | zero => exact hx'
        | succ j =>
          have hj' : j < xs.length := by simpa using hj
          have h3 := List.find?_eq_none.1 h2 xs[j] (List.getElem_mem hj')
          simpa using h3
      · refine .inr ⟨i + 1, by simpa using h, ?_, by simp [hx', h2]⟩
        have h3 := List.find?_eq_some_iff_getElem.1 h2
        obtain ⟨hp, k, hk, hke, hkn⟩ := h3
        unfold idxOf at h1 ⊢
        rw [List.findIdx?_cons, hx']
        cases hq : xs.findIdx? p with
        | none => rw [hq] at h1; exact absurd h1 (by simp)
        | some q =>
          rw [hq] at h1
          simp at h1 ⊢
          omega
end Go.Proofs.Ytkhocnaocndkjaa
