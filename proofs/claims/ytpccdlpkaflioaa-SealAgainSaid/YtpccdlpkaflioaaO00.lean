/- Arguments as they come in are opened: what is readable has a form. No program in sight. -/
import Derived.Test.YtpccdlpkaflioaaM00
import Derived.ProofKit
import Derived.OpenShut
import Derived.Laws.IdiomArrays
set_option linter.unusedVariables false
set_option linter.unusedSimpArgs false
namespace Go.Proofs.Ytpccdlpkaflioaa
open Go.RowKit Go.ChangeShapes Go.WideShapes Go.ChangeAt
section
variable {H : Type} {enc : TypeId × Value → H} {P : Program} {W : World} {r : Reach} {base : Nat} {t e : TypeId} {v : Value} {d : DataW H} {p : List MemPlace}
theorem u8_range {n : Int} (h : (Lit.int .u8 n).wf = true) : 0 ≤ n ∧ n < 256 := by
  simp [Lit.wf, IntKind.min, IntKind.max, IntKind.signed, IntKind.bits] at h
  omega
theorem open_arr4u8 (ht : P.underlying t = some (.array 4 e)) (he : P.underlying e = some (.int .u8)) (hce : P.cellsOf e = 1) (hct : P.cellsOf t = 4)
    (hv : Value.okWide P W r base t v) (h : DataW.Trod enc P W 0 (fun _ => true) true t v d p) :
    ∃ a : Int × Int × Int × Int, v = .agg #[.int .u8 a.1, .int .u8 a.2.1, .int .u8 a.2.2.1, .int .u8 a.2.2.2] ∧ (0 ≤ a.1 ∧ a.1 < 256) ∧ (0 ≤ a.2.1 ∧ a.2.1 < 256) ∧ (0 ≤ a.2.2.1 ∧ a.2.2.1 < 256) ∧ (0 ≤ a.2.2.2 ∧ a.2.2.2 < 256) := by
  simp only [Value.okWide, ht] at hv
  obtain ⟨cs, rfl, hsz, _⟩ := hv
  rw [hct] at hsz
  obtain ⟨c0, c1, c2, c3, rfl⟩ : ∃ c0 c1 c2 c3, cs = #[c0, c1, c2, c3] := by
    obtain ⟨l⟩ := cs
    match l, hsz with
    | [c0, c1, c2, c3], _ => exact ⟨_, _, _, _, rfl⟩
  obtain ⟨fuel, hf⟩ := h
  obtain ⟨y0, y1, y2, y3, n, _, h0, h1, h2, h3⟩ := trod_array4 ht hce hf
  obtain ⟨a0, e0, _, w0⟩ := DataW.trod_int he h0
  obtain ⟨a1, e1, _, w1⟩ := DataW.trod_int he h1
  obtain ⟨a2, e2, _, w2⟩ := DataW.trod_int he h2
  obtain ⟨a3, e3, _, w3⟩ := DataW.trod_int he h3
  simp only [List.cons.injEq, and_true] at e0 e1 e2 e3
  subst e0 e1 e2 e3
  exact ⟨(a0, a1, a2, a3), rfl, u8_range w0, u8_range w1, u8_range w2, u8_range w3⟩
end
end Go.Proofs.Ytpccdlpkaflioaa
