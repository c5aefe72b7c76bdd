/- Slices as they come in are opened: what is readable lies as cells, element behind element. No program in sight. -/
import Derived.Test.YtkhocnaocndkjaaM02
import Derived.ProofKit
import Derived.OpenShut
import Derived.SliceStrings
set_option linter.unusedVariables false
set_option linter.unusedSimpArgs false
namespace Go.Proofs.Ytkhocnaocndkjaa
open Go.RowKit Go.ChangeShapes Go.WideShapes Go.ChangeAt
theorem add_off (b o j : Nat) : (⟨b, o, none⟩ : Addr).add j = ⟨b, o + j, none⟩ := by unfold Addr.add; split <;> simp_all
section
variable {H : Type} {enc : TypeId × Value → H} {P : Program} {W : World} {r : Reach} {base bb : Nat} {spare : Nat → Bool} {held : Bool} {t e : TypeId} {v : Value} {d : DataW H} {p : List MemPlace}
theorem cell_spot {a : Addr} {u : Value} (h : W.cell? a = some u) : a.spot = none := by
  unfold World.cell? at h
  split at h
  · split at h
    · cases h
    · rename_i hs
      cases hsp : a.spot with
      | none => rfl
      | some x => simp [hsp] at hs
  · cases h
theorem sl_of_trod {sz : Nat} (ht : P.underlying t = some (.slice e)) (hsz : P.cellsOf e = sz) (h0 : 0 < sz) (h : DataW.Trod enc P W base spare held t v d p) (hv : ∃ a l c, v = .slice a l c) :
    ∃ n cells, SlAt W v sz n cells ∧ ∀ i, i < n → ∃ f y, DataW.trod enc P W base spare held f e ((cells.drop (i * sz)).take sz) = some y := by
  obtain ⟨a0, l0, c0, rfl⟩ := hv
  obtain ⟨fuel, hf⟩ := h
  rcases DataW.trod_slice ht hf with ⟨hcs, _⟩ | ⟨a, len, cap, elems, rest, n, _, hcs, _, hb, hl, hm, hlen, hel, _, _⟩
  · have hcs' : [Value.slice a0 l0 c0] = [.slice none 0 0] := hcs
    injection hcs' with e1 _
    injection e1 with e1 e2 e3
    subst e1 e2 e3
    exact ⟨0, [], SlAt.nil _ _, fun i hi => absurd hi (by omega)⟩
  · have hcs' : [Value.slice a0 l0 c0] = [.slice (some a) len cap] := hcs
    injection hcs' with e1 _
    injection e1 with e1 e2 e3
    subst e1 e2 e3
    rw [hsz] at hel
    have each : ∀ i, i < l0 → ∃ cs y, W.cells? base (a.add (i * sz)) sz = some cs ∧ DataW.trod enc P W base spare held n e cs = some y := by
      intro i hi
      have h1 := hel i hi
      rw [List.getElem?_eq_getElem (by omega)] at h1
      obtain ⟨cs, h2, h3⟩ := Option.bind_eq_some_iff.1 h1
      exact ⟨cs, _, h2, h3⟩
    have hadd : ∀ i j, (a.add i).add j = a.add (i + j) := by
      intro i j
      unfold Addr.add
      by_cases h1 : i = 0 <;> by_cases h2 : j = 0 <;> simp [h1, h2, Nat.add_assoc]
    have hcell : ∀ j, j < l0 * sz → ∃ u, W.cell? (a.add j) = some u := by
      intro j hj
      have hi : j / sz < l0 := (Nat.div_lt_iff_lt_mul h0).2 hj
      obtain ⟨cs, y, h2, _⟩ := each (j / sz) hi
      obtain ⟨_, h4, h5⟩ := World.cells?_some h2
      have hr : j % sz < sz := Nat.mod_lt _ h0
      have h6 := h5 (j % sz) hr
      rw [hadd, Nat.div_add_mod' j sz] at h6
      exact ⟨_, h6.trans (List.getElem?_eq_getElem (by omega))⟩
    have hj' : ∀ j, j < l0 * sz → W.cell? (a.add j) = some ((W.cell? (a.add j)).getD undef) := by
      intro j hj
      obtain ⟨u, hu⟩ := hcell j hj
      rw [hu]
      rfl
    refine ⟨l0, (List.range (l0 * sz)).map fun j => (W.cell? (a.add j)).getD undef, ⟨by simp, some a, c0, rfl, hl, hm, ?_⟩, ?_⟩
    · rcases Nat.eq_zero_or_pos l0 with hz | hz
      · exact .inl hz
      · right
        obtain ⟨u, hu⟩ := hcell 0 (Nat.mul_pos hz h0)
        have hsp := cell_spot hu
        have ha0 : a.add 0 = a := by simp [Addr.add]
        rw [ha0] at hsp hu
        obtain ⟨b, o, s⟩ := a
        simp only at hsp
        subst hsp
        refine ⟨b, o, rfl, World.block_lt_of_cell? W _ hu, fun j u' hu' => ?_⟩
        rw [List.getElem?_map] at hu'
        obtain ⟨k, hk, rfl⟩ := Option.map_eq_some_iff.1 hu'
        obtain ⟨hk1, hk2⟩ := List.getElem?_eq_some_iff.1 hk
        rw [List.getElem_range] at hk2
        subst hk2
        rw [List.length_range] at hk1
        have := hj' j hk1
        rw [add_off] at this ⊢
        exact this
    · intro i hi
      obtain ⟨cs, y, h2, h3⟩ := each i hi
      obtain ⟨_, h4, h5⟩ := World.cells?_some h2
      refine ⟨n, y, ?_⟩
      have hchunk : (((List.range (l0 * sz)).map fun j => (W.cell? (a.add j)).getD undef).drop (i * sz)).take sz = cs := by
        have hle : i * sz + sz ≤ l0 * sz := by rw [← Nat.succ_mul]; exact Nat.mul_le_mul_right _ hi
        apply List.ext_getElem
        · simp only [List.length_take, List.length_drop, List.length_map, List.length_range]
          omega
        · intro j h6 h7
          simp only [List.length_take, List.length_drop, List.length_map, List.length_range] at h6
          simp only [List.getElem_take, List.getElem_drop, List.getElem_map, List.getElem_range]
          have h8 := h5 j (by omega)
          rw [hadd] at h8
          rw [h8, List.getElem?_eq_getElem h7]
          rfl
      rw [hchunk]
      exact h3
/-- Cells, element behind element. -/
theorem cells_enc {α : Type} (en : α → List Value) (Q : α → Prop) (sz : Nat) : ∀ (n : Nat) (cells : List Value), cells.length = n * sz → (∀ i, i < n → ∃ x, (cells.drop (i * sz)).take sz = en x ∧ Q x) → ∃ xs : List α, xs.length = n ∧ cells = xs.flatMap en ∧ ∀ x ∈ xs, Q x := by
  intro n
  induction n with
  | zero =>
    intro cells hl _
    exact ⟨[], rfl, by simpa using hl, fun x hx => by simp at hx⟩
  | succ n ih =>
    intro cells hl h
    obtain ⟨x, hx, hq⟩ := h 0 (by omega)
    obtain ⟨xs, h1, h2, h3⟩ := ih (cells.drop sz) (by rw [List.length_drop, hl, Nat.succ_mul]; omega) (fun i hi => by
      obtain ⟨y, hy, hq'⟩ := h (i + 1) (by omega)
      refine ⟨y, ?_, hq'⟩
      rw [List.drop_drop, ← hy, Nat.succ_mul, Nat.add_comm])
    refine ⟨x :: xs, by simp [h1], ?_, fun y hy => ?_⟩
    · rw [List.flatMap_cons, ← h2, ← hx]
      simp
    · rcases List.mem_cons.1 hy with rfl | hy
      · exact hq
      · exact h3 y hy
theorem flat_strs (xs : List ByteArray) : xs.flatMap (fun s => [Value.string s]) = strs xs := by
  induction xs with
  | nil => rfl
  | cons x xs ih =>
    rw [List.flatMap_cons, ih]
    rfl
/-- A []string. -/
theorem open_strs (ht : P.underlying t = some (.slice e)) (he : P.underlying e = some .string) (hc : P.cellsOf e = 1) (h : DataW.Trod enc P W base spare held t v d p) (hv : ∃ a l c, v = .slice a l c) :
    ∃ xs : List ByteArray, SlAt W v 1 xs.length (strs xs) ∧ ∀ x ∈ xs, x.size ≤ maxLen := by
  obtain ⟨n, cells, hS, hel⟩ := sl_of_trod ht hc (by omega) h hv
  obtain ⟨xs, h1, h2, h3⟩ := cells_enc (fun s => [Value.string s]) (fun s => s.size ≤ maxLen) 1 n cells hS.1 (fun i hi => by
    obtain ⟨f, y, hy⟩ := hel i hi
    obtain ⟨s, hs, _, hw⟩ := DataW.trod_string he hy
    exact ⟨s, hs, hw⟩)
  rw [flat_strs] at h2
  subst h1 h2
  exact ⟨xs, hS, h3⟩
theorem slice_of_trod {u : Value} {fuel : Nat} {x : DataW H × List MemPlace} (ht : P.underlying t = some (.slice e)) (h : DataW.trod enc P W base spare held fuel t [u] = some x) : (∃ a l c, u = .slice a l c) ∧ DataW.Trod enc P W base spare held t u x.1 x.2 := by
  have hu : ∃ a l c, u = .slice a l c := by
    rcases DataW.trod_slice ht h with ⟨hcs, _⟩ | ⟨a, len, cap, elems, rest, n, _, hcs, _⟩
    · injection hcs with e1 _
      exact ⟨_, _, _, e1⟩
    · injection hcs with e1 _
      exact ⟨_, _, _, e1⟩
  refine ⟨hu, ?_⟩
  obtain ⟨a, l, c, rfl⟩ := hu
  exact ⟨fuel, h⟩
/-- A struct of one field. -/
theorem open_s1 {f0 : Field} (ht : P.underlying t = some (.struct #[f0])) (hc : P.cellsOf t = 1) (hc0 : P.cellsOf f0.type = 1) (ho : f0.offset = 0) (hv : Value.okWide P W r bb t v) (h : DataW.Trod enc P W base spare held t v d p) :
    ∃ u y q, v = .agg #[u] ∧ ∃ fuel, DataW.trod enc P W base spare held fuel f0.type [u] = some (y, q) := by
  obtain ⟨cs, rfl, hsz⟩ := okWide_struct ht hv
  rw [hc] at hsz
  obtain ⟨u, rfl⟩ : ∃ u, cs = #[u] := by
    obtain ⟨l⟩ := cs
    match l, hsz with
    | [u], _ => exact ⟨_, rfl⟩
  obtain ⟨fuel, hf⟩ := h
  obtain ⟨xs, n, _, _, _, hlx, hx⟩ := DataW.trod_struct ht hf
  have h0 := hx 0 f0 rfl
  rw [ho, hc0] at h0
  have hlx' : xs.length = 1 := hlx
  obtain ⟨⟨y, q⟩, rfl⟩ : ∃ x, xs = [x] := by
    match xs, hlx' with
    | [x], _ => exact ⟨_, rfl⟩
  exact ⟨u, y, q, rfl, n, h0⟩
/-- An api.Disk. -/
theorem open_disk {f0 : Field} (ht : P.underlying t = some (.struct #[f0])) (hc : P.cellsOf t = 1) (hc0 : P.cellsOf f0.type = 1) (ho : f0.offset = 0) (ht0 : P.underlying f0.type = some (.slice e)) (he : P.underlying e = some .string) (hce : P.cellsOf e = 1)
    (hv : Value.okWide P W r bb t v) (h : DataW.Trod enc P W base spare held t v d p) : ∃ a : Value × List ByteArray, v = .agg #[a.1] ∧ SlAt W a.1 1 a.2.length (strs a.2) := by
  obtain ⟨u, y, q, rfl, fuel, hf⟩ := open_s1 ht hc hc0 ho hv h
  obtain ⟨hu, h2⟩ := slice_of_trod ht0 hf
  obtain ⟨xs, h3, _⟩ := open_strs ht0 he hce h2 hu
  exact ⟨(u, xs), rfl, h3⟩
end
end Go.Proofs.Ytkhocnaocndkjaa
