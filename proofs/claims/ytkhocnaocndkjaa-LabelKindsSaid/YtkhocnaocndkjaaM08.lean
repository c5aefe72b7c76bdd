/- A world that has grown: what was there is as it was. The walk sees through it. No program in sight. -/
import Derived.Test.YtkhocnaocndkjaaM07
import Derived.Deep.QuietTactic
import Derived.BigQuiet
set_option linter.unusedVariables false
set_option linter.unusedSimpArgs false
namespace Go.Proofs.Ytkhocnaocndkjaa
open Go.RowKit
/-- How a world has grown. -/
structure Ext (w : World) where
  W : World
  bel : Below w.heap.size w W
instance (w : World) : Nonempty (Ext w) := ⟨⟨w, Below.refl _ _⟩⟩
def ext (w : World) (x : Ext w) : World := x.W
def more {w : World} (x : Ext w) : Nat := x.W.heap.size - w.heap.size
def cellX {w : World} (x : Ext w) (a : Addr) : Option Value := x.W.cell? a
def frozenX {w : World} (x : Ext w) (a : Addr) : Bool := x.W.frozen? a
section
variable {w w1 W : World}
theorem ext_bel (w : World) (x : Ext w) : Below w.heap.size w (ext w x) := x.bel
theorem ext_of (h : Below w.heap.size w W) : ∃ x, W = ext w x := ⟨⟨W, h⟩, rfl⟩
theorem ext_size (x : Ext w) : (ext w x).heap.size = w.heap.size + more x := by
  have := x.bel.size
  unfold ext more
  omega
theorem ext_cell (x : Ext w) (b o : Nat) : (ext w x).cell? ⟨b, o, none⟩ = if b < w.heap.size then w.cell? ⟨b, o, none⟩ else cellX x ⟨b, o, none⟩ := by
  split
  · rename_i h
    exact x.bel.cell (p := ⟨b, o, none⟩) h
  · rfl
theorem ext_frozen (x : Ext w) (b o : Nat) : (ext w x).frozen? ⟨b, o, none⟩ = if b < w.heap.size then w.frozen? ⟨b, o, none⟩ else frozenX x ⟨b, o, none⟩ := by
  split
  · rename_i h
    exact x.bel.frozen (p := ⟨b, o, none⟩) h
  · rfl
theorem alloc_cell (W : World) (cs : Array Value) (T : TypeId) (fr : Nat × Nat) (b o : Nat) : (W.alloc (.cells cs T fr)).cell? ⟨b, o, none⟩ = if b < W.heap.size then W.cell? ⟨b, o, none⟩ else if b = W.heap.size then cs[o]? else none := by
  split
  · rename_i h
    exact World.cell?_of_block (Below.heap_alloc W _ b h)
  · rename_i h
    split
    · rename_i h2
      subst h2
      simp only [World.cell?, blk_new]
      rfl
    · rename_i h2
      simp only [World.cell?]
      rw [Array.getElem?_eq_none (by rw [size_alloc]; omega)]
theorem alloc_frozen (W : World) (cs : Array Value) (T : TypeId) (b o : Nat) : (W.alloc (.cells cs T (0, 0))).frozen? ⟨b, o, none⟩ = if b < W.heap.size then W.frozen? ⟨b, o, none⟩ else false := by
  split
  · rename_i h
    exact World.frozen?_of_block (Below.heap_alloc W _ b h)
  · rename_i h
    by_cases h2 : b = W.heap.size
    · subst h2
      simp only [World.frozen?, blk_new]
      simp
    · simp only [World.frozen?]
      rw [Array.getElem?_eq_none (by rw [size_alloc]; omega)]
theorem set_cell (W : World) (g j b o : Nat) (v : Value) : (W.setCell ⟨g, j, none⟩ v).cell? ⟨b, o, none⟩ = if b = g then if o = j then (W.cell? ⟨b, o, none⟩).map fun _ => v else W.cell? ⟨b, o, none⟩ else W.cell? ⟨b, o, none⟩ := by
  split
  · rename_i h
    subst h
    split
    · rename_i h
      subst h
      cases hc : W.cell? ⟨b, o, none⟩ with
      | some u => rw [cell_set_same (by rw [hc]; rfl)]; rfl
      | none =>
        simp only [World.cell?] at hc
        simp only [World.cell?, World.setCell, Array.getElem?_modify]
        cases hh : W.heap[b]? with
        | none => simp
        | some ob =>
          rw [hh] at hc
          cases ob <;> simp_all
    · rename_i h
      exact cell_set_other W (by intro e; injection e; omega) rfl rfl v
  · rename_i h
    exact cell_set_other W (by intro e; injection e; omega) rfl rfl v
theorem set_frozen (W : World) (a : Addr) (b o : Nat) (v : Value) : (W.setCell a v).frozen? ⟨b, o, none⟩ = W.frozen? ⟨b, o, none⟩ := frozen_set W a _ v
theorem drew_cell (W : World) (a : Addr) : W.drew.cell? a = W.cell? a := rfl
theorem drew_size (W : World) : W.drew.heap.size = W.heap.size := rfl
theorem lt_more {a b c : Nat} (h : a < b) : (a < b + c) = True := eq_true (by omega)
theorem lt_suc {a b : Nat} : (a < a + 1 + b) = True := eq_true (by omega)
theorem le_more {a b c : Nat} (h : a ≤ b) : (a ≤ b + c) = True := eq_true (by omega)
theorem le_lt {a b : Nat} (h : a < b) : (a ≤ b) = True := eq_true (by omega)
theorem bext (h : Below w.heap.size w w1) (x : Ext w1) : Below w.heap.size w (ext w1 x) := bel h x.bel
theorem bdr (h : Below w.heap.size w w1) : Below w.heap.size w w1.drew := h.drew
theorem bdrN (h : Below w.heap.size w w1) (n : Nat) : Below w.heap.size w (w1.drewN n) := bdn h n
theorem bst (h : Below w.heap.size w w1) {p : Addr} (u : Value) (hp : w.heap.size ≤ p.block) : Below w.heap.size w (w1.setCell p u) := bset h hp u
theorem drew_ext (w : World) : ∃ x, w.drew = ext w x := ext_of (Below.refl _ _).drew
/-- The class of the worlds that have grown out of one. -/
def Grew (w : World) (w' : World) : Prop := ∃ x, w' = ext w x
theorem Grew.of_bel {w w' : World} (h : Below w.heap.size w w') : Grew w w' := ext_of h
theorem ext_ext (x : Ext w) (y : Ext (ext w x)) : ∃ z, ext (ext w x) y = ext w z := ext_of (bext (ext_bel w x) y)
variable {P : Program}
/-- A region that draws its order, that only reads, and whose calls leave what was there as it was: the order of the text serves. -/
theorem wp_region_ext {id : Nat} {Q : Exit → Act → World → Prop} {a : Act} {w : World} {l : List Oper} (hm : P.follows .mixedOrders = true) (hB : Region.lexB .any l.toArray = true)
    (h : wpQuiet P l.toArray (fun w' => ∃ x, w' = ext w x) (fun a' => ∀ w', (∃ x, w' = ext w x) → Q .normal a' w') l a) : (Code.region id l.toArray true).wp P Q a w :=
  wp_region_quiet (C := fun w' => ∃ x, w' = ext w x) hm hB (drew_ext w) (by simpa using h)
theorem same_bel {f : FuncId} {args : Array Value} {v : Value} (h : Calls P f args w fun e w' => e = .returned v ∧ w = w') : Calls P f args w fun e w' => e = .returned v ∧ Below w.heap.size w w' :=
  h.mono fun _ _ ⟨he, hm⟩ => ⟨he, hm ▸ Below.refl _ _⟩
/-- The world is given a name. -/
theorem name_world {c : Code} {Q : Exit → Act → World → Prop} {a : Act} {W : World} (h : ∀ W5, W5 = W → c.wp P Q a W5) : c.wp P Q a W := h W rfl
/-- Grown twice is grown. -/
theorem join_ext {c : Code} {Q : Exit → Act → World → Prop} {a : Act} {x : Ext w} {y : Ext (ext w x)} (h : ∀ z, c.wp P Q a (ext w z)) : c.wp P Q a (ext (ext w x) y) := by
  obtain ⟨z, hz⟩ := ext_ext x y
  rw [hz]
  exact h z
/-- A contract, met in a world that has grown. -/
theorem Calls.grew {f : FuncId} {args : Array Value} {x : Ext w} {v : Value}
    (h : Calls P f args (ext w x) fun e w' => e = .returned v ∧ Below (ext w x).heap.size (ext w x) w') : Calls P f args (ext w x) fun e w'' => e = .returned v ∧ ∃ m, w'' = ext w m :=
  h.mono fun _ _ ⟨he, hm⟩ => ⟨he, ext_of (bel x.bel hm)⟩
theorem Calls.grew_same {f : FuncId} {args : Array Value} {x : Ext w} {v : Value}
    (h : Calls P f args (ext w x) fun e w' => e = .returned v ∧ ext w x = w') : Calls P f args (ext w x) fun e w'' => e = .returned v ∧ ∃ m, w'' = ext w m :=
  h.mono fun _ _ ⟨he, hm⟩ => ⟨he, x, hm.symm⟩
end
end Go.Proofs.Ytkhocnaocndkjaa
