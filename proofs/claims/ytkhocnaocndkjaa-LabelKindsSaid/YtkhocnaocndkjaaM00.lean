/- Plain facts on worlds: blocks, cells, what stays. No program in sight. -/
import Derived.WalkKit
import Derived.Below
import Derived.Deep.Draws
import Derived.Lib.ConvBytes
import Derived.Lib.Hide
import Derived.Laws.Rows
set_option linter.unusedVariables false
set_option linter.unusedSimpArgs false
namespace Go.Proofs.Ytkhocnaocndkjaa
open Go.RowKit
section
variable {W W' w w1 w2 : World} {g j : Nat} {cs : Array Value} {T : TypeId} {fr : Nat × Nat} {v : Value}
theorem blk_new (W : World) (o : Obj) : (W.alloc o).heap[W.heap.size]? = some o := heap_alloc_new W o
theorem blk_lt {o : Obj} (h : W.heap[g]? = some o) : g < W.heap.size := (Array.getElem?_eq_some_iff.1 h).1
theorem blk_cell (h : W.heap[g]? = some (.cells cs T fr)) (hv : cs[j]? = some v) : W.cell? ⟨g, j, none⟩ = some v := by
  simp [World.cell?, h, hv]
theorem blk_free (h : W.heap[g]? = some (.cells cs T (0, 0))) (j : Nat) : W.frozen? ⟨g, j, none⟩ = false := by
  simp [World.frozen?, h]
theorem blk_below {B : Nat} (hb : Below B W W') (hg : g < B) {o : Obj} (h : W.heap[g]? = some o) : W'.heap[g]? = some o := (hb.block g hg).trans h
theorem blk_alloc (o' : Obj) {o : Obj} (h : W.heap[g]? = some o) : (W.alloc o').heap[g]? = some o := (Below.heap_alloc W o' g (blk_lt h)).trans h
theorem size_alloc (W : World) (o : Obj) : (W.alloc o).heap.size = W.heap.size + 1 := by simp
theorem blk_new2 (W : World) (o1 o2 : Obj) : ((W.alloc o1).alloc o2).heap[W.heap.size + 1]? = some o2 := by
  have := blk_new (W.alloc o1) o2
  rwa [size_alloc] at this
theorem blk_new1 (W : World) (o1 o2 : Obj) : ((W.alloc o1).alloc o2).heap[W.heap.size]? = some o1 := (Below.heap_alloc (W.alloc o1) o2 W.heap.size (by rw [size_alloc]; omega)).trans (blk_new W o1)
theorem cell_alloc2 (W : World) (o1 o2 : Obj) {b j : Nat} (hb : b < W.heap.size) : ((W.alloc o1).alloc o2).cell? ⟨b, j, none⟩ = W.cell? ⟨b, j, none⟩ :=
  World.cell?_of_block ((Below.heap_alloc (W.alloc o1) o2 b (by rw [size_alloc]; omega)).trans (Below.heap_alloc W o1 b hb))
theorem blk_call (hb : Below W.heap.size W W') {o : Obj} (h : W.heap[g]? = some o) : W'.heap[g]? = some o := blk_below hb (blk_lt h) h
theorem blk_set (h : W.heap[g]? = some (.cells cs T fr)) (j : Nat) (v : Value) : (W.setCell ⟨g, j, none⟩ v).heap[g]? = some (.cells (cs.setIfInBounds j v) T fr) := by
  simp [World.setCell, Array.getElem?_modify, h]
theorem blk_set_far {o : Obj} (h : W.heap[g]? = some o) {a : Addr} (ha : g ≠ a.block) (v : Value) : (W.setCell a v).heap[g]? = some o := (Below.heap_setCell W a v g ha).trans h
theorem bel {w w1 w2 : World} (h : Below w.heap.size w w1) (k : Below w1.heap.size w1 w2) : Below w.heap.size w w2 := h.trans ⟨k.os, k.tape, k.output, k.size, fun i hi => k.block i (Nat.lt_of_lt_of_le hi h.size)⟩
theorem bels {B : Nat} {w w1 w2 : World} (h : Below B w w1) (hB : B ≤ w1.heap.size) (k : Below w1.heap.size w1 w2) : Below B w w2 := h.trans ⟨k.os, k.tape, k.output, k.size, fun i hi => k.block i (Nat.lt_of_lt_of_le hi hB)⟩
theorem bcell {W w1 : World} (hb : Below W.heap.size W w1) : (∀ b o, b < W.heap.size → w1.cell? ⟨b, o, none⟩ = W.cell? ⟨b, o, none⟩) ∧ (∀ b o, b < W.heap.size → w1.frozen? ⟨b, o, none⟩ = W.frozen? ⟨b, o, none⟩) :=
  ⟨fun b o h => hb.cell (p := ⟨b, o, none⟩) h, fun b o h => hb.frozen (p := ⟨b, o, none⟩) h⟩
theorem bal {w w1 : World} (h : Below w.heap.size w w1) (o : Obj) : Below w.heap.size w (w1.alloc o) := h.alloc h.size o
theorem size_lt {B n : Nat} {w w1 : World} (h : Below B w w1) (hn : n < w.heap.size) : n < w1.heap.size := Nat.lt_of_lt_of_le hn h.size
theorem bset {B : Nat} {a w : World} (h : Below B a w) {p : Addr} (hp : B ≤ p.block) (u : Value) : Below B a (w.setCell p u) := h.setCell hp u
theorem bdn {B : Nat} {a w : World} (h : Below B a w) (n : Nat) : Below B a (w.drewN n) := h.trans ⟨rfl, rfl, rfl, Nat.le_refl _, fun _ _ => rfl⟩
theorem bytes_below {B : Nat} {a w : World} (h : Below B a w) (hB : B ≤ w.heap.size) (e : TypeId) (s : ByteArray) : Below B a (Lib.bytesWorld w e s) :=
  h.trans ⟨rfl, rfl, rfl, by rw [Lib.bytesWorld_size]; omega, fun k hk => Lib.bytesWorld_at_old w e s k (by omega)⟩
theorem bytes_free (W : World) (e : TypeId) (t : ByteArray) (j : Nat) (hj : j < t.size) : (Lib.bytesWorld W e t).frozen? ⟨W.heap.size, j, none⟩ = false := by
  have hsz : t.size ≤ (Lib.bytesCells W e t).size := by
    unfold Lib.bytesCells
    rw [Array.size_append, Array.size_map]
    exact Nat.le_add_right _ _
  simp only [World.frozen?, Lib.bytesWorld_at_new]
  rw [Bool.and_eq_false_iff]
  left
  simp only [decide_eq_false_iff_not]
  omega
theorem cell_set_same (h : (W.cell? ⟨g, j, none⟩).isSome = true) (v : Value) : (W.setCell ⟨g, j, none⟩ v).cell? ⟨g, j, none⟩ = some v := World.cell?_setCell_same' W _ v h
theorem cell_set_other (W : World) {a b : Addr} (h : b ≠ a) (ha : b.spot = none) (hb : a.spot = none) (v : Value) : (W.setCell a v).cell? b = W.cell? b := by
  obtain ⟨g, j, s⟩ := a
  obtain ⟨g', j', s'⟩ := b
  simp only at ha hb
  subst ha hb
  simp only [World.cell?, World.setCell, Array.getElem?_modify]
  by_cases hg : g = g'
  · subst hg
    have hj : j ≠ j' := fun e => h (by rw [e])
    cases hh : W.heap[g]? with
    | none => simp [hh]
    | some o => cases o <;> simp [hh, Array.getElem?_setIfInBounds, hj]
  · simp [hg]
theorem frozen_set (W : World) (a b : Addr) (v : Value) : (W.setCell a v).frozen? b = W.frozen? b := by
  simp only [World.frozen?, World.setCell, Array.getElem?_modify]
  by_cases hg : a.block = b.block
  · rw [hg]
    cases hh : W.heap[b.block]? with
    | none => simp [hh]
    | some o => cases o <;> simp [hh]
  · simp [hg]
end
theorem ret_int {k : IntKind} {a b : Int} (h : a = b) : Ending.returned (.int k a) = .returned (.int k b) := by rw [h]
theorem ret_str {a b : ByteArray} (h : a = b) : Ending.returned (.string a) = .returned (.string b) := by rw [h]
theorem ret_bool {a b : Bool} (h : a = b) : Ending.returned (.bool a) = .returned (.bool b) := by rw [h]
theorem len_data (t : ByteArray) : t.data.toList.length = t.size := by rw [Array.length_toList]; rfl
theorem bytes_of_eq {a b : ByteArray} (h : (a.toList == b.toList) = true) : a = b := by
  rw [ByteArray.toList_eq, ByteArray.toList_eq] at h
  apply ByteArray.ext
  exact Array.toList_inj.1 (by simpa using h)
theorem bytes_ne {a b : ByteArray} (h : a ≠ b) : (a.toList == b.toList) = false := by
  cases e : (a.toList == b.toList)
  · rfl
  · exact absurd (bytes_of_eq e) h
theorem bytes_eq_self (a : ByteArray) : (a.toList == a.toList) = true := by simp
theorem ext0_all (s : ByteArray) (n : Nat) (h : s.size ≤ n) : s.extract 0 n = s := by
  apply ByteArray.ext
  rw [ByteArray.data_extract]
  apply Array.extract_eq_self_of_le
  exact h
end Go.Proofs.Ytkhocnaocndkjaa
