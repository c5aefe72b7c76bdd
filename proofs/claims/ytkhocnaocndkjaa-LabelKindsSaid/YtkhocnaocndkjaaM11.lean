/- Labels put in order, plain. No program in sight. -/
import Derived.Test.YtkhocnaocndkjaaM10
set_option linter.unusedVariables false
set_option linter.unusedSimpArgs false
namespace Go.Proofs.Ytkhocnaocndkjaa
open Go.RowKit
def ltL (a b : Lab) : Prop := ltS a.name b.name = true
def neL (a b : Lab) : Prop := a.name ≠ b.name
theorem ltL_trans {a b c : Lab} (h : ltL a b) (k : ltL b c) : ltL a c := ltS_trans h k
theorem ltL_ne {a b : Lab} (h : ltL a b) : neL a b := by
  intro e
  unfold ltL at h
  rw [e, ltS_self] at h
  exact absurd h (by simp)
theorem rises_pair : ∀ {xs : List Lab}, risesB xs = true ↔ xs.Pairwise ltL
  | [] => by simp [risesB]
  | [x] => by simp [risesB]
  | x :: y :: r => by
    have ih := rises_pair (xs := y :: r)
    unfold risesB
    rw [Bool.and_eq_true, ih, List.pairwise_cons (a := x)]
    constructor
    · rintro ⟨h1, h2⟩
      refine ⟨fun z hz => ?_, h2⟩
      rcases List.mem_cons.1 hz with rfl | hz
      · exact h1
      · exact ltL_trans h1 ((List.pairwise_cons.1 h2).1 z hz)
    · rintro ⟨h1, h2⟩
      exact ⟨h1 y (by simp), h2⟩
theorem ne_pair {xs : List Lab} (h : risesB xs = true) : xs.Pairwise neL := (rises_pair.1 h).imp ltL_ne
theorem ne_perm {xs ys : List Lab} (h : xs.Perm ys) : xs.Pairwise neL ↔ ys.Pairwise neL := h.pairwise_iff fun h => fun e => h e.symm
theorem sorted_rises {ys : List Lab} (hs : ∀ i j (hi : i < j) (hj : j < ys.length), ltS ys[j].name (ys[i]'(by omega)).name = false) (hn : ys.Pairwise neL) : risesB ys = true := by
  rw [rises_pair, List.pairwise_iff_getElem]
  intro i j hi hj hij
  have h1 := hs i j hij hj
  have h2 := (List.pairwise_iff_getElem.1 hn) i j hi hj hij
  rcases ltS_total ys[i].name ys[j].name with h | h | h
  · exact h
  · exact absurd h h2
  · rw [h] at h1; exact absurd h1 (by simp)
theorem rises_unique : ∀ {xs ys : List Lab}, xs.Pairwise ltL → ys.Pairwise ltL → xs.Perm ys → xs = ys
  | [], ys, _, _, h => (List.Perm.nil_eq h)
  | x :: xs, [], _, _, h => absurd h.length_eq (by simp)
  | x :: xs, y :: ys, h1, h2, h => by
    have hx := (List.pairwise_cons.1 h1).1
    have hy := (List.pairwise_cons.1 h2).1
    have e : x = y := by
      have m1 : x ∈ y :: ys := h.subset (by simp)
      have m2 : y ∈ x :: xs := h.symm.subset (by simp)
      rcases List.mem_cons.1 m1 with e | m1
      · exact e
      · rcases List.mem_cons.1 m2 with e | m2
        · exact e.symm
        · have := ltL_trans (hx y m2) (hy x m1)
          exact absurd rfl (ltL_ne this)
    subst e
    rw [rises_unique (List.pairwise_cons.1 h1).2 (List.pairwise_cons.1 h2).2 (List.perm_cons x |>.1 h)]
/-- One label put in its place. -/
def insL (x : Lab) : List Lab → List Lab
  | [] => [x]
  | y :: r => if ltS x.name y.name = true then x :: y :: r else y :: insL x r
theorem insL_perm (x : Lab) : ∀ l : List Lab, (insL x l).Perm (x :: l)
  | [] => List.Perm.refl _
  | y :: r => by
    unfold insL
    split
    · exact List.Perm.refl _
    · exact ((insL_perm x r).cons y).trans (List.Perm.swap x y r)
theorem insL_rises (x : Lab) : ∀ l : List Lab, l.Pairwise ltL → (∀ y ∈ l, neL x y) → (insL x l).Pairwise ltL
  | [], _, _ => by simp [insL]
  | y :: r, h, hn => by
    obtain ⟨h1, h2⟩ := List.pairwise_cons.1 h
    unfold insL
    split
    · rename_i hlt
      refine List.pairwise_cons.2 ⟨fun z hz => ?_, h⟩
      rcases List.mem_cons.1 hz with rfl | hz
      · exact hlt
      · exact ltL_trans hlt (h1 z hz)
    · rename_i hlt
      have hyx : ltL y x := by
        rcases ltS_total x.name y.name with h3 | h3 | h3
        · exact absurd h3 hlt
        · exact absurd h3 (hn y (by simp))
        · exact h3
      refine List.pairwise_cons.2 ⟨fun z hz => ?_, insL_rises x r h2 fun z hz => hn z (by simp [hz])⟩
      rcases List.mem_cons.1 ((insL_perm x r).subset hz) with rfl | hz
      · exact hyx
      · exact h1 z hz
/-- All put in order, one behind the other; none: a name is there twice. -/
def sortO : List Lab → List Lab → Option (List Lab)
  | out, [] => some out
  | out, x :: r => if out.any (fun y => x.name.toList == y.name.toList) then none else sortO (insL x out) r
theorem any_name (x : Lab) (out : List Lab) : out.any (fun y => x.name.toList == y.name.toList) = true ↔ ∃ y ∈ out, x.name = y.name := by
  rw [List.any_eq_true]
  constructor
  · rintro ⟨y, hy, h⟩
    exact ⟨y, hy, bytes_of_eq h⟩
  · rintro ⟨y, hy, h⟩
    exact ⟨y, hy, by rw [h]; exact bytes_eq_self _⟩
theorem sortO_some : ∀ (xs out res : List Lab), out.Pairwise ltL → sortO out xs = some res → res.Pairwise ltL ∧ res.Perm (out ++ xs)
  | [], out, res, h, hs => by
    unfold sortO at hs
    injection hs with hs
    subst hs
    exact ⟨h, by rw [List.append_nil]⟩
  | x :: r, out, res, h, hs => by
    unfold sortO at hs
    split at hs
    · cases hs
    · rename_i hn
      have hne : ∀ y ∈ out, neL x y := fun y hy e => hn ((any_name x out).2 ⟨y, hy, e⟩)
      obtain ⟨h1, h2⟩ := sortO_some r (insL x out) res (insL_rises x out h hne) hs
      refine ⟨h1, h2.trans ?_⟩
      exact ((insL_perm x out).append_right r).trans List.perm_middle.symm
theorem sortO_none : ∀ (xs out : List Lab), sortO out xs = none → ¬ (out ++ xs).Pairwise neL
  | [], out, hs => by unfold sortO at hs; cases hs
  | x :: r, out, hs => by
    intro hp
    unfold sortO at hs
    split at hs
    · rename_i hn
      obtain ⟨y, hy, e⟩ := (any_name x out).1 hn
      have := (List.pairwise_append.1 hp).2.2 y hy x (by simp)
      exact this e.symm
    · refine sortO_none r (insL x out) hs ?_
      have : (insL x out ++ r).Perm (out ++ x :: r) := ((insL_perm x out).append_right r).trans List.perm_middle.symm
      exact (ne_perm this).2 hp
def sortE (xs : List Lab) : Int := if eachB xs = true then (match sortO [] xs with | some _ => 0 | none => 11) else 1
def sortL (xs : List Lab) : List Lab := if eachB xs = true then (sortO [] xs).getD [] else []
/-- Whatever sorts a list so, has made it this one, if it rises. -/
theorem sort_meets {xs ys : List Lab} (hp : ys.Perm xs) (hs : ∀ i j (hi : i < j) (hj : j < ys.length), ltS ys[j].name (ys[i]'(by omega)).name = false) :
    (risesB ys = true ∧ sortO [] xs = some ys) ∨ (risesB ys = false ∧ sortO [] xs = none) := by
  cases h : sortO [] xs with
  | some res =>
    obtain ⟨h1, h2⟩ := sortO_some xs [] res List.Pairwise.nil h
    rw [List.nil_append] at h2
    have hn : ys.Pairwise neL := (ne_perm (hp.trans h2.symm)).2 (h1.imp ltL_ne)
    have hr := sorted_rises hs hn
    have := rises_unique (rises_pair.1 hr) h1 (hp.trans h2.symm)
    exact .inl ⟨hr, by rw [this]⟩
  | none =>
    refine .inr ⟨?_, rfl⟩
    cases hr : risesB ys
    · rfl
    · exact absurd ((ne_perm hp).1 (ne_pair hr)) (by simpa using sortO_none xs [] h)
theorem eachB_perm {xs ys : List Lab} (h : ys.Perm xs) : eachB ys = eachB xs := by
  unfold eachB
  rw [h.length_eq, h.any_eq]
end Go.Proofs.Ytkhocnaocndkjaa
