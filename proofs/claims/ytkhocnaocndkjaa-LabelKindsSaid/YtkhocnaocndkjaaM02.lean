/- Slices that are read: their elements lie as cells, one behind the other. No program in sight. -/
import Derived.Test.YtkhocnaocndkjaaM00
import Derived.Laws.OwnMore
set_option linter.unusedVariables false
set_option linter.unusedSimpArgs false
namespace Go.Proofs.Ytkhocnaocndkjaa
open Go.RowKit
/-- v is a slice of n elements of sz cells each; these are its cells. -/
def SlAt (W : World) (v : Value) (sz n : Nat) (cells : List Value) : Prop :=
  cells.length = n * sz ∧ ∃ a c, v = .slice a n c ∧ n ≤ c ∧ c ≤ maxLen ∧ (n = 0 ∨ ∃ b o, a = some ⟨b, o, none⟩ ∧ b < W.heap.size ∧ ∀ j u, cells[j]? = some u → W.cell? ⟨b, o + j, none⟩ = some u)
section
variable {W W' : World} {v : Value} {sz n : Nat} {cells : List Value}
theorem SlAt.stay (h : SlAt W v sz n cells) (hb : Below W.heap.size W W') : SlAt W' v sz n cells := by
  obtain ⟨hl, a, c, hv, h1, h2, h3⟩ := h
  refine ⟨hl, a, c, hv, h1, h2, ?_⟩
  rcases h3 with h3 | ⟨b, o, ha, hlt, hc⟩
  · exact .inl h3
  · exact .inr ⟨b, o, ha, Nat.lt_of_lt_of_le hlt hb.size, fun j u hu => (hb.cell (p := ⟨b, o + j, none⟩) hlt).trans (hc j u hu)⟩
theorem SlAt.form (h : SlAt W v sz n cells) : ∃ a c, v = .slice a n c ∧ n ≤ c ∧ c ≤ maxLen := by
  obtain ⟨_, a, c, hv, h1, h2, _⟩ := h
  exact ⟨a, c, hv, h1, h2⟩
theorem SlAt.nil (W : World) (sz : Nat) : SlAt W (.slice none 0 0) sz 0 [] := ⟨by simp, none, 0, rfl, Nat.le_refl _, Nat.zero_le _, .inl rfl⟩
theorem SlAt.le (h : SlAt W v sz n cells) : n ≤ maxLen := by
  obtain ⟨a, c, _, h1, h2⟩ := h.form
  omega
/-- The address of a slice that has an element, and its cells. -/
theorem SlAt.at {a : Option Addr} {c : Nat} (h : SlAt W (.slice a n c) sz n cells) (hn : 0 < n) : ∃ b o, a = some ⟨b, o, none⟩ ∧ b < W.heap.size ∧ ∀ j u, cells[j]? = some u → W.cell? ⟨b, o + j, none⟩ = some u := by
  obtain ⟨_, a', c', hv, _, _, h3⟩ := h
  injection hv with e1 e2 e3
  subst e1
  rcases h3 with h3 | h3
  · omega
  · exact h3
theorem SlAt.of_own {base : Nat} {e : TypeId} (h : W.ownsRow base e sz v n cells) (hm : n ≤ maxLen) : SlAt W v sz n cells := by
  rcases h.2 with ⟨hv, h0⟩ | ⟨g, cap, cur, hv, hb, hg, h1, h2, hs, ht⟩
  · subst h0
    exact ⟨h.1, none, 0, hv, Nat.le_refl _, Nat.zero_le _, .inl rfl⟩
  · refine ⟨h.1, some ⟨g, 0, none⟩, cap, hv, h1, h2, .inr ⟨g, 0, rfl, blk_lt hg, fun j u hu => ?_⟩⟩
    have := h.cells (g := g) (by rw [hv]; rfl) j u hu
    have hadd : (⟨g, 0, none⟩ : Addr).add j = ⟨g, 0 + j, none⟩ := by unfold Addr.add; split <;> simp_all
    rwa [hadd] at this
end
/-- A slice that lies in memory from a block on. -/
def FreshV (B : Nat) (v : Value) : Prop := ∀ b, v.ownBlock = some b → B ≤ b
theorem FreshV.mono {B B' : Nat} {v : Value} (h : FreshV B v) (hB : B' ≤ B) : FreshV B' v := fun b hb => Nat.le_trans hB (h b hb)
theorem FreshV.nil (B : Nat) (l c : Nat) : FreshV B (.slice none l c) := fun b hb => by simp [Value.ownBlock] at hb
theorem FreshV.of_own {W : World} {B : Nat} {e : TypeId} {v : Value} {sz n : Nat} {cells : List Value} (h : W.ownsRow B e sz v n cells) : FreshV B v := fun b hb => (h.lt b hb).1
theorem SlAt.store {W : World} {v : Value} {sz n : Nat} {cells : List Value} (h : SlAt W v sz n cells) {p : Addr} (hne : ∀ b, v.ownBlock = some b → b ≠ p.block) (u : Value) : SlAt (W.setCell p u) v sz n cells := by
  obtain ⟨hl, a, c, hv, h1, h2, h3⟩ := h
  refine ⟨hl, a, c, hv, h1, h2, ?_⟩
  rcases h3 with h3 | ⟨b, o, ha, hlt, hc⟩
  · exact .inl h3
  · refine .inr ⟨b, o, ha, by simpa [World.setCell] using hlt, fun j u' hu => ?_⟩
    have hb : b ≠ p.block := hne b (by rw [hv, ha]; rfl)
    have : (W.setCell p u).cell? ⟨b, o + j, none⟩ = W.cell? ⟨b, o + j, none⟩ := World.cell?_of_block (Below.heap_setCell W p u b hb)
    rw [this]
    exact hc j u' hu
theorem SlAt.alloc {W : World} {v : Value} {sz n : Nat} {cells : List Value} (h : SlAt W v sz n cells) (o : Obj) : SlAt (W.alloc o) v sz n cells := h.stay (bal (Below.refl _ _) _)
/-- Texts as cells. -/
def strs (xs : List ByteArray) : List Value := xs.map Value.string
theorem strs_len (xs : List ByteArray) : (strs xs).length = xs.length := by simp [strs]
theorem strs_get (xs : List ByteArray) (i : Nat) (h : i < xs.length) : (strs xs)[i]? = some (.string xs[i]) := by simp [strs, h]
/-- The first place of which something holds; -1: there is none. -/
def idxOf {α : Type} (p : α → Bool) (xs : List α) : Int := match xs.findIdx? p with | some i => i | none => -1
theorem idxOf_found {α : Type} {p : α → Bool} {xs : List α} {i : Nat} (h : i < xs.length) (hp : p xs[i] = true) (hn : ∀ j (hj : j < i), p (xs[j]'(by omega)) = false) : idxOf p xs = i := by
  unfold idxOf
  have : xs.findIdx? p = some i := by
    rw [List.findIdx?_eq_some_iff_getElem]
    exact ⟨h, hp, fun j hj => by simp [hn j hj]⟩
  rw [this]
theorem idxOf_none {α : Type} {p : α → Bool} {xs : List α} (hn : ∀ j (hj : j < xs.length), p xs[j] = false) : idxOf p xs = -1 := by
  unfold idxOf
  have : xs.findIdx? p = none := by
    rw [List.findIdx?_eq_none_iff]
    intro x hx
    obtain ⟨j, hj, rfl⟩ := List.mem_iff_getElem.1 hx
    exact hn j hj
  rw [this]
theorem idxOf_any {α : Type} (p : α → Bool) (xs : List α) : decide (0 ≤ idxOf p xs) = xs.any p := by
  unfold idxOf
  cases h : xs.findIdx? p with
  | none =>
    rw [List.findIdx?_eq_none_iff] at h
    have : xs.any p = false := by
      rw [List.any_eq_false]
      intro x hx
      simp [h x hx]
    rw [this]
    rfl
  | some i =>
    have : xs.any p = true := by
      rw [List.findIdx?_eq_some_iff_getElem] at h
      obtain ⟨hi, hp, _⟩ := h
      exact List.any_eq_true.2 ⟨_, List.getElem_mem hi, hp⟩
    rw [this]
    simp
/-! ### disks -/
def badSize (x : ByteArray) : Bool := (x.size : Int) != 128
def rightD (xs : List ByteArray) : Bool := decide (10 ≤ xs.length) && decide (xs.length ≤ 130) && !xs.any badSize
/-- Why a sector is not there; 0: it is. -/
def mayD (xs : List ByteArray) (i : Int) : Int := if rightD xs = false then 1 else if 0 ≤ i ∧ i < xs.length then 0 else 3
theorem mayD_no {xs : List ByteArray} (h : rightD xs = false) (i : Int) : mayD xs i = 1 := by unfold mayD; rw [if_pos h]
theorem mayD_in {xs : List ByteArray} (h : rightD xs = true) {i : Int} (h0 : 0 ≤ i) (h1 : i < xs.length) : mayD xs i = 0 := by unfold mayD; rw [if_neg (by simp [h]), if_pos ⟨h0, h1⟩]
theorem mayD_out {xs : List ByteArray} (h : rightD xs = true) {i : Int} (h0 : i < 0 ∨ xs.length ≤ i) : mayD xs i = 3 := by unfold mayD; rw [if_neg (by simp [h]), if_neg (by omega)]
def readD (xs : List ByteArray) (i : Int) : ByteArray := if mayD xs i = 0 then xs.getD i.toNat ByteArray.empty else ⟨#[]⟩
theorem mayD_zero {xs : List ByteArray} {i : Int} (h : mayD xs i = 0) : rightD xs = true ∧ 0 ≤ i ∧ i < xs.length := by
  unfold mayD at h
  split at h
  · omega
  · rename_i h1
    split at h
    · rename_i h2
      exact ⟨by simpa using h1, h2⟩
    · omega
theorem mayD_cases (xs : List ByteArray) (i : Int) : mayD xs i = 0 ∨ mayD xs i = 1 ∨ mayD xs i = 3 := by
  unfold mayD
  split
  · exact .inr (.inl rfl)
  · split
    · exact .inl rfl
    · exact .inr (.inr rfl)
theorem rightD_sizes {xs : List ByteArray} (h : rightD xs = true) : 10 ≤ xs.length ∧ xs.length ≤ 130 ∧ ∀ x ∈ xs, x.size = 128 := by
  unfold rightD at h
  simp only [Bool.and_eq_true, decide_eq_true_eq, Bool.not_eq_true', List.any_eq_false, Bool.not_eq_true] at h
  refine ⟨h.1.1, h.1.2, fun x hx => ?_⟩
  have := h.2 x hx
  unfold badSize at this
  simp at this
  omega
/-- One text over another one, as far as k. -/
def over (x t : ByteArray) (k : Nat) : ByteArray := ⟨(t.data.toList.take k ++ x.data.toList.drop k).toArray⟩
def tearE (xs : List ByteArray) (i : Int) (t : ByteArray) (k : Int) : Int :=
  if mayD xs i ≠ 0 then mayD xs i else if t.size ≠ 128 then 2 else if k < 0 ∨ 128 < k then 1 else 0
def tearL (xs : List ByteArray) (i : Int) (t : ByteArray) (k : Int) : List ByteArray :=
  if tearE xs i t k = 0 then xs.set i.toNat (over (xs.getD i.toNat ByteArray.empty) t k.toNat) else []
end Go.Proofs.Ytkhocnaocndkjaa
