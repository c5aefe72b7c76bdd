/- Slices of labels and matchers as they come in are opened. -/
import Derived.Test.YtkhocnaocndkjaaO01
import Derived.Test.YtkhocnaocndkjaaC10l
import Derived.Deep.Strs
set_option linter.unusedVariables false
set_option linter.unusedSimpArgs false
namespace Go.Proofs.Ytkhocnaocndkjaa
open Go.RowKit Go.ChangeShapes Go.WideShapes Go.ChangeAt
section
variable {H : Type} {enc : TypeId × Value → H} {P : Program} {W : World} {r : Reach} {base bb : Nat} {spare : Nat → Bool} {held : Bool} {t e : TypeId} {v : Value} {d : DataW H} {p : List MemPlace}
theorem open_labs {f0 f1 : Field} (ht : P.underlying t = some (.slice e)) (he : P.underlying e = some (.struct #[f0, f1])) (hc : P.cellsOf e = 2) (h0 : P.underlying f0.type = some .string) (h1 : P.underlying f1.type = some .string) (c0 : P.cellsOf f0.type = 1) (c1 : P.cellsOf f1.type = 1) (o0 : f0.offset = 0) (o1 : f1.offset = 1)
    (hv : Value.okWide P W r bb t v) (h : DataW.Trod enc P W base spare held t v d p) : ∃ xs : List Lab, SlAt W v 2 xs.length (labsC xs) ∧ LabsOk xs := by
  obtain ⟨n, cells, hS, hel⟩ := sl_of_trod ht hc (by omega) h (okWide_slice ht hv)
  obtain ⟨xs, h2, h3, h4⟩ := cells_enc labC (fun x => x.name.size ≤ maxLen ∧ x.value.size ≤ maxLen) 2 n cells hS.1 (fun i hi => by
    obtain ⟨f, y, hy⟩ := hel i hi
    obtain ⟨y0, y1, m, _, hl, q0, q1⟩ := trod_struct2 he hy
    rw [hc] at hl
    obtain ⟨u0, u1, hu⟩ : ∃ u0 u1, (cells.drop (i * 2)).take 2 = [u0, u1] := by
      match (cells.drop (i * 2)).take 2, hl with
      | [u0, u1], _ => exact ⟨_, _, rfl⟩
    rw [hu, o0, c0] at q0
    rw [hu, o1, c1] at q1
    obtain ⟨s0, e0, _, w0⟩ := DataW.trod_string h0 q0
    obtain ⟨s1, e1, _, w1⟩ := DataW.trod_string h1 q1
    simp at e0 e1
    exact ⟨⟨s0, s1⟩, by rw [hu, e0, e1]; rfl, w0, w1⟩)
  subst h2
  rw [h3] at hS
  exact ⟨xs, hS, h4⟩
theorem open_mats {f0 f1 f2 : Field} (ht : P.underlying t = some (.slice e)) (he : P.underlying e = some (.struct #[f0, f1, f2])) (hc : P.cellsOf e = 3) (h0 : P.underlying f0.type = some (.int .i64)) (h1 : P.underlying f1.type = some .string) (h2 : P.underlying f2.type = some .string) (c0 : P.cellsOf f0.type = 1) (c1 : P.cellsOf f1.type = 1) (c2 : P.cellsOf f2.type = 1) (o0 : f0.offset = 0) (o1 : f1.offset = 1) (o2 : f2.offset = 2)
    (hv : Value.okWide P W r bb t v) (h : DataW.Trod enc P W base spare held t v d p) : ∃ xs : List Mat, SlAt W v 3 xs.length (matsC xs) ∧ MatsOk xs := by
  obtain ⟨n, cells, hS, hel⟩ := sl_of_trod ht hc (by omega) h (okWide_slice ht hv)
  obtain ⟨xs, h2, h3, h4⟩ := cells_enc matC (fun x => x.name.size ≤ maxLen ∧ x.value.size ≤ maxLen) 3 n cells hS.1 (fun i hi => by
    obtain ⟨f, y, hy⟩ := hel i hi
    obtain ⟨y0, y1, y2, m, _, hl, q0, q1, q2⟩ := Go.Deep.trod_struct3 he hy
    rw [hc] at hl
    obtain ⟨u0, u1, u2, hu⟩ : ∃ u0 u1 u2, (cells.drop (i * 3)).take 3 = [u0, u1, u2] := by
      match (cells.drop (i * 3)).take 3, hl with
      | [u0, u1, u2], _ => exact ⟨_, _, _, rfl⟩
    rw [hu, o0, c0] at q0
    rw [hu, o1, c1] at q1
    rw [hu, o2, c2] at q2
    obtain ⟨s0, e0, _, _⟩ := DataW.trod_int h0 q0
    obtain ⟨s1, e1, _, w1⟩ := DataW.trod_string h1 q1
    obtain ⟨s2, e2, _, w2⟩ := DataW.trod_string h2 q2
    simp at e0 e1 e2
    exact ⟨⟨s0, s1, s2⟩, by rw [hu, e0, e1, e2]; rfl, w1, w2⟩)
  subst h2
  rw [h3] at hS
  exact ⟨xs, hS, h4⟩
end
end Go.Proofs.Ytkhocnaocndkjaa
