/- Part 1 of a proof: contracts and plain laws of what the statement reaches. No condition. -/
import Derived.Below
import Derived.Deep.Draws
import Derived.Deep.AppendLies
import Derived.Maps.AppendAt
import Derived.OwnWalk
import Derived.Laws.BytesArg
import Derived.Laws.MakeOwn
import Derived.Laws.OwnMore
import Derived.Deep.OwnRows
import Derived.Tactics
import Derived.Lib.ConvBytes
import Derived.Laws.Slices
import Derived.WalkKit
import Derived.KernelRfl
import Derived.RowKit3
import Derived.Deep.LoopGhost
import Derived.Deep.QuietTactic
import Derived.BigQuiet
import Derived.WideLaws
import Derived.Deep.DeepCutAuto
import Derived.Deep.CutBlock
import Derived.Deep.RegionHeld3
import Derived.Laws.Rows
import Derived.Lib.AppendStr
import Derived.ArgAppend
import Derived.Laws.IdiomCopy
import Derived.RowKit
import Derived.OrdersHeld
import Derived.Laws.BitsLemmas
import Derived.Test.YtopaddpclipnjaaProg
import Derived.Lib.LaidTab
import Derived.Lib.AppendIntMem
import Derived.Laws.StructEq
import Derived.Lib.Hide
import Derived.Lib.Strings
import Derived.ProofKit
import Derived.OpenShut
import Derived.SliceStrings
import Derived.Shelf.SlSortCmp.SmallK
import Derived.Test.YtopaddpclipnjaaChecked
import Derived.LoopTactic
import Derived.Outline
import Derived.Shelf.Abstract
import Derived.Laws.CopyOwn
import Derived.Lib.UnsafeStr
import Derived.Shelf.Strings.Builder1
import Derived.Shelf.Strings.Builder2
import Derived.Shelf.Strings.BuilderF
import Derived.Shelf.Strings.BuilderK
import Derived.Shelf.Strings.Builder2Cap
import Derived.Shelf.Strings.Prefix
import Derived.Shelf.Bits.Mul64
import Derived.Shelf.Strings.Repeat
import Derived.Shelf.Strings.BuilderCap
import Derived.Ground.Names2Prog
import Derived.Shelf.Slices.Clone
import Derived.Deep.RegionLaw
import Derived.Laws.Entries
import Derived.Deep.RegionWith
set_option linter.unusedVariables false
set_option linter.unusedSimpArgs false
namespace Go.Proofs.YtopaddpclipnjaaW.PrintWords
open Go.RowKit
structure Aside0 (p : Prop) : Prop where mk :: (out : p)
structure Drawn0 (w w' : World) : Prop where mk :: (out : ∃ n, w' = w.drewN n)
theorem Drawn0.refl (w : World) : Drawn0 w w := ⟨⟨0, rfl⟩⟩
theorem Drawn0.step {w w' : World} (h : Drawn0 w w') (n : Nat) : Drawn0 w (w'.drewN n) := by
  obtain ⟨m, rfl⟩ := h
  exact ⟨⟨m + n, World.drewN_drewN ..⟩⟩
theorem Drawn0.grown {w w' : World} (h : Drawn0 w w') : Grown w w' := by
  obtain ⟨n, rfl⟩ := h
  induction n with
  | zero => exact Grown.refl _
  | succ n ih => rw [← World.drew_drewN]; exact Grown.drew ih
theorem Drawn0.below {w w' : World} (h : Drawn0 w w') : Below w.heap.size w w' := by
  obtain ⟨n, rfl⟩ := h
  induction n with
  | zero => exact Below.refl _ _
  | succ n ih => rw [← World.drew_drewN]; exact ih.drew
def rd (xs : List Int) (i : Int) : Int := xs.getD i.toNat 0
def bt (s : ByteArray) (i : Int) : Int := if h : i.toNat < s.size then ((s[i.toNat]'h).toNat : Int) else 0
theorem bt_at (s : ByteArray) (i : Int) : ∀ h : i.toNat < s.size, ((s[i.toNat]'h).toNat : Int) = bt s i := fun h => by simp [bt, h]
theorem below_alloc {w W : World} (h : Below w.heap.size w W) (o : Obj) : Below w.heap.size w (W.alloc o) := h.alloc h.size o
theorem below_drew {B : Nat} {w W : World} (h : Below B w W) : Below B w W.drew := ⟨h.os, h.tape, h.output, h.size, h.block⟩
theorem pw_below_drewN {B : Nat} {w W : World} (h : Below B w W) (n : Nat) : Below B w (W.drewN n) := ⟨h.os, h.tape, h.output, h.size, h.block⟩
theorem below_then {B : Nat} {w w1 w2 : World} (h : Below B w w1) (hB : B ≤ w1.heap.size) (k : Below w1.heap.size w1 w2) : Below B w w2 :=
  h.trans ⟨k.os, k.tape, k.output, k.size, fun i hi => k.block i (Nat.lt_of_lt_of_le hi hB)⟩
theorem grown_of_below {w w1 : World} (h : Below w.heap.size w w1) (row : Option Nat) : w.grownBy w1 row := ⟨h.os, h.tape, h.output, h.size, fun i hi _ => h.block i hi⟩
theorem pw_cell_below {w w1 : World} (h : Below w.heap.size w w1) {a : Addr} {v : Value} (hc : w.cell? a = some v) : w1.cell? a = some v := (h.cell (World.block_lt_of_cell? w a hc)).trans hc
def ReadsInt (w : World) (k : IntKind) (A : Option Addr) (n : Nat) (xs : List Int) : Prop :=
  xs.length = n ∧ n ≤ 9223372036854775807 ∧ (0 < n → ∃ ad, A = some ad ∧ ∀ j, j < n → w.cell? (ad.add j) = some (.int k (xs.getD j 0)))
theorem ReadsInt.at_ {w : World} {k : IntKind} {A : Option Addr} {n : Nat} {xs : List Int} (h : ReadsInt w k A n xs) (i : Int) (h0 : 0 ≤ i) (h1 : i < n) : ∃ ad, A = some ad ∧ w.cell? (ad.add i.toNat) = some (.int k (rd xs i)) := by
  obtain ⟨ad, e, hc⟩ := h.2.2 (by omega)
  exact ⟨ad, e, hc _ (by omega)⟩
theorem ReadsInt.below {w w1 : World} {k : IntKind} {A : Option Addr} {n : Nat} {xs : List Int} (h : ReadsInt w k A n xs) (hb : Below w.heap.size w w1) : ReadsInt w1 k A n xs :=
  ⟨h.1, h.2.1, fun hn => by
    obtain ⟨ad, e, hc⟩ := h.2.2 hn
    exact ⟨ad, e, fun j hj => pw_cell_below hb (hc j hj)⟩⟩
theorem own_nil (W : World) (base : Nat) (e : TypeId) (size : Nat) : W.ownsRow base e size (.slice none 0 0) 0 [] := ⟨by simp, .inl ⟨rfl, rfl⟩⟩
theorem own_base {w : World} {base : Nat} {e : TypeId} {size n : Nat} {v : Value} {xs : List Value} (h : w.ownsRow base e size v n xs) (k : Nat) (hk : v.ownBlock = some k) : base ≤ k := by
  rcases h.2 with ⟨rfl, _⟩ | ⟨g, cap, cur, rfl, hb, _⟩
  · simp [Value.ownBlock] at hk
  · have : g = k := by simpa [Value.ownBlock] using hk
    omega
theorem own_lt {w : World} {base : Nat} {e : TypeId} {size n : Nat} {v : Value} {xs : List Value} (h : w.ownsRow base e size v n xs) (k : Nat) (hk : v.ownBlock = some k) : k < w.heap.size := by
  rcases h.2 with ⟨rfl, _⟩ | ⟨g, cap, cur, rfl, hb, hh, _⟩
  · simp [Value.ownBlock] at hk
  · have : g = k := by simpa [Value.ownBlock] using hk
    subst this
    exact (Array.getElem?_eq_some_iff.1 hh).1
theorem pw_own_below {w w1 : World} {base : Nat} {e : TypeId} {size n : Nat} {v : Value} {xs : List Value} (h : w.ownsRow base e size v n xs) (hb : Below w.heap.size w w1) : w1.ownsRow base e size v n xs :=
  h.kept (grown_of_below hb none) (by cases v.ownBlock <;> simp)
theorem own_other {w w1 : World} {base : Nat} {e : TypeId} {size n : Nat} {v : Value} {xs : List Value} (h : w.ownsRow base e size v n xs) {row : Option Nat} (hg : w.grownBy w1 row) (hne : v.ownBlock = none ∨ v.ownBlock ≠ row) : w1.ownsRow base e size v n xs := h.kept hg hne
section
variable {P : Program} {ops : Array Oper} {rest : List Oper} {o : Oper} {a : Act} {Q : Exit → Act → World → Prop}
end
section
variable {P : Program}
end
section
variable {P : Program} {ops : Array Oper} {rest : List Oper} {o : Oper} {a : Act} {Q : Exit → Act → World → Prop}
end
def bytesOf (s : ByteArray) : List Int := s.data.toList.map fun b => (b.toNat : Int)
theorem ReadsInt.take_ {w : World} {k : IntKind} {A : Option Addr} {n : Nat} {xs : List Int} (h : ReadsInt w k A n xs) (i : Nat) (hi : i ≤ n) : ReadsInt w k A i (xs.take i) := by
  refine ⟨by rw [List.length_take, h.1]; omega, by have := h.2.1; omega, fun hp => ?_⟩
  obtain ⟨ad, e, hc⟩ := h.2.2 (by omega)
  refine ⟨ad, e, fun j hj => ?_⟩
  rw [hc j (by omega)]
  simp [List.getD_eq_getElem?_getD, hj]
def LeO {α : Type} (a b : Option α) : Prop := ∀ r, a = some r → b = some r
theorem LeO.refl {α : Type} (a : Option α) : LeO a a := fun _ h => h
theorem LeO.none {α : Type} (b : Option α) : LeO Option.none b := fun _ h => by cases h
theorem LeO.trans {α : Type} {a b c : Option α} (h : LeO a b) (k : LeO b c) : LeO a c := fun r hr => k r (h r hr)
theorem LeO.ite {α : Type} {c : Prop} [Decidable c] {a a' b b' : Option α} (h : LeO a a') (k : LeO b b') : LeO (if c then a else b) (if c then a' else b') := by
  split
  · exact h
  · exact k
theorem LeO.bind {α β : Type} {a a' : Option α} {f f' : α → Option β} (h : LeO a a') (k : ∀ x, LeO (f x) (f' x)) : LeO (a.bind f) (a'.bind f') := by
  intro r hr
  obtain ⟨x, hx, hf⟩ := Option.bind_eq_some_iff.1 hr
  exact Option.bind_eq_some_iff.2 ⟨x, h x hx, k x r hf⟩
theorem LeO.map {α β : Type} {a a' : Option α} (f : α → β) (h : LeO a a') : LeO (a.map f) (a'.map f) := by
  intro r hr
  obtain ⟨x, hx, hf⟩ := Option.map_eq_some_iff.1 hr
  exact Option.map_eq_some_iff.2 ⟨x, h x hx, hf⟩
def Reps {α : Type} (R : α → List Value → Prop) (size : Nat) (ps : List α) (cs : List Value) : Prop :=
  cs.length = ps.length * size ∧ ∀ j p, ps[j]? = some p → R p ((cs.drop (j * size)).take size)
theorem Reps.none {α : Type} (R : α → List Value → Prop) (size : Nat) : Reps R size [] [] := ⟨by simp, fun j p h => by simp at h⟩
theorem Reps.snoc {α : Type} {R : α → List Value → Prop} {size : Nat} {ps : List α} {cs c : List Value} {p : α} (h : Reps R size ps cs) (hp : R p c) (hc : c.length = size) : Reps R size (ps ++ [p]) (cs ++ c) := by
  refine ⟨by rw [List.length_append, h.1, hc, List.length_append, List.length_singleton, Nat.add_mul, Nat.one_mul], fun j q hq => ?_⟩
  rcases Nat.lt_or_ge j ps.length with hj | hj
  · rw [List.getElem?_append_left hj] at hq
    have h1 : j * size + size ≤ cs.length := by rw [h.1, ← Nat.succ_mul]; exact Nat.mul_le_mul_right _ hj
    have h2 := h.2 j q hq
    rw [List.drop_append_of_le_length (by omega), List.take_append_of_le_length (by rw [List.length_drop]; omega)]
    exact h2
  · have hj' : j = ps.length := by
      have := (List.getElem?_eq_some_iff.1 hq).1
      rw [List.length_append, List.length_singleton] at this
      omega
    subst hj'
    have hq' : p = q := by simpa using hq
    subst hq'
    rw [← h.1, List.drop_left, ← hc, List.take_length]
    exact hp
theorem Reps.imp_ {α : Type} {R R' : α → List Value → Prop} {size : Nat} {ps : List α} {cs : List Value} (h : Reps R size ps cs) (hR : ∀ p c, R p c → R' p c) : Reps R' size ps cs := ⟨h.1, fun j p hj => hR _ _ (h.2 j p hj)⟩
def ReadsRow {α : Type} (R : α → List Value → Prop) (size : Nat) (w : World) (A : Option Addr) (n : Nat) (ps : List α) : Prop :=
  ps.length = n ∧ n ≤ 9223372036854775807 ∧ (0 < n → ∃ ad, A = some ad ∧ ∀ j p, ps[j]? = some p → ∃ c, c.length = size ∧ R p c ∧ ∀ i u, c[i]? = some u → w.cell? (ad.add (j * size + i)) = some u)
theorem ReadsRow.imp_ {α : Type} {R R' : α → List Value → Prop} {size : Nat} {w w1 : World} {A : Option Addr} {n : Nat} {ps : List α} (h : ReadsRow R size w A n ps) (hb : Below w.heap.size w w1) (hR : ∀ p c, R p c → R' p c) : ReadsRow R' size w1 A n ps :=
  ⟨h.1, h.2.1, fun hn => by
    obtain ⟨ad, e, hc⟩ := h.2.2 hn
    refine ⟨ad, e, fun j p hj => ?_⟩
    obtain ⟨c, hs, hr, hcell⟩ := hc j p hj
    exact ⟨c, hs, hR _ _ hr, fun i u hu => pw_cell_below hb (hcell i u hu)⟩⟩
theorem own_reads_row {α : Type} {R : α → List Value → Prop} {w : World} {base n size : Nat} {e : TypeId} {v : Value} {ps : List α} {cs : List Value} (h : w.ownsRow base e size v n cs) (hR : Reps R size ps cs) (hn : ps.length = n) :
    ∃ A c, v = .slice A n c ∧ ReadsRow R size w A n ps := by
  rcases Nat.eq_zero_or_pos n with h0 | h0
  · rcases h.2 with ⟨rfl, rfl⟩ | ⟨g, cap, cur, rfl, _⟩
    · exact ⟨none, 0, rfl, hn, by omega, fun hp => absurd hp (by omega)⟩
    · exact ⟨_, cap, rfl, hn, by omega, fun hp => absurd hp (by omega)⟩
  · obtain ⟨g, cap, rfl, _, _⟩ := h.form h0
    have hm : n ≤ 9223372036854775807 := by
      rcases h.2 with ⟨_, h1⟩ | ⟨g', cap', cur, he, _, _, h1, h2, _⟩
      · omega
      · simp only [maxLen] at h2
        omega
    refine ⟨_, cap, rfl, hn, hm, fun _ => ⟨_, rfl, fun j p hj => ⟨(cs.drop (j * size)).take size, ?_, hR.2 j p hj, fun i u hu => ?_⟩⟩⟩
    · have hjl := (List.getElem?_eq_some_iff.1 hj).1
      have h1 : j * size + size ≤ cs.length := by rw [hR.1, ← Nat.succ_mul]; exact Nat.mul_le_mul_right _ hjl
      rw [List.length_take, List.length_drop]
      omega
    · refine h.cells (g := g) rfl _ u ?_
      rw [List.getElem?_take] at hu
      split at hu
      · rw [List.getElem?_drop] at hu
        exact hu
      · cases hu
section
variable {P : Program} {ops : Array Oper} {rest : List Oper} {o : Oper} {a : Act} {Q : Exit → Act → World → Prop}
theorem print_append_cells {w0 W : World} (base : Nat) (hgd : o.guard = none) (s x : Operand) (t e : TypeId) (z : Value) (size bytes : Nat)
    (ho : o.op = .call { callee := .builtin .append, args := #[s, x], argTypes := #[t, t] })
    (ht : P.underlying t = some (.slice e)) (hinfo : (P.info? e).map (fun i => (i.zero, i.size, i.bytes)) = some (some z, size, bytes)) (hz : z.cells.size = size) (hs0 : 0 < size) (hb0 : 0 < bytes)
    (v : Value) (n : Nat) (xs ys : List Value) (hs : a.eval s = v) (hx : a.eval x = .slice (some ⟨W.heap.size, 0, none⟩) 1 1) (hys : ys.length = size) (h1 : ∀ u ∈ ys, u.oneCell' = true)
    (HO : W.ownsRow base e size v n xs) (HB : Below base w0 W) (hbase : base ≤ W.heap.size) (hl : (n + 1) * bytes ≤ 140737488355328)
    (h : ∀ v1 w1, w1.ownsRow base e size v1 (n + 1) (xs ++ ys) → Below base w0 w1 → W.grownBy w1 v.ownBlock → (v1.ownBlock = v.ownBlock ∨ ∃ b, v1.ownBlock = some b ∧ W.heap.size ≤ b) → wpList P ops Q rest (a.put o.dst v1) w1) :
    wpList P ops Q (o :: rest) a (W.alloc (.cells ys.toArray e)) := by
  obtain ⟨i0, hi, hzz⟩ := Option.map_eq_some_iff.1 hinfo
  simp only [Prod.mk.injEq] at hzz
  obtain ⟨hz0, hz1, hz2⟩ := hzz
  have hlen : n + 1 ≤ 140737488355328 := Nat.le_trans (Nat.le_mul_of_pos_right _ hb0) hl
  refine wpList_append_own_at (W.alloc (.cells ys.toArray e)) hgd s x t ho base e i0 z size bytes ht hi hz0 hz1 hz2 hz hs0 v n xs hs (HO.alloc _) ⟨W.heap.size, 0, none⟩ 1 1 ys hx (by rw [hys]; simp)
    (by simpa using World.news_of_block (cs := ys.toArray) (t := e) (fr := (0, 0)) (heap_alloc_new W (.cells ys.toArray e))) h1 (by simp only [maxLen]; omega) hl (by simp; omega) ?_
  intro v1 w1 hown hg _ hat
  refine h v1 w1 hown ((HB.alloc hbase _).grown hg (by simp; omega) (own_base HO)) (World.grownBy.trans (World.grownBy_alloc W _ _) hg) ?_
  rcases hat with hat | hat
  · exact .inl hat
  · exact .inr ⟨_, hat, by simp⟩
end
theorem own_ne {w : World} {base : Nat} {e t : TypeId} {size n g : Nat} {v : Value} {xs : List Value} {cs : Array Value} (h : w.ownsRow base e size v n xs) (hg : w.heap[g]? = some (.cells cs t (0, 0))) (hne : e ≠ t) : some g ≠ v.ownBlock := by
  rcases h.2 with ⟨rfl, _⟩ | ⟨g', cap, cur, rfl, _, hh, _⟩
  · simp [Value.ownBlock]
  · intro he
    have : g = g' := by simpa [Value.ownBlock] using he
    subst this
    rw [hg] at hh
    injection hh with hh
    injection hh with _ ht
    exact hne ht.symm
theorem blk_set {w : World} {g : Nat} {t : TypeId} {cs : Array Value} (h : w.heap[g]? = some (.cells cs t (0, 0))) (i : Nat) (u : Value) : (w.setCell ⟨g, i, none⟩ u).heap[g]? = some (.cells (cs.setIfInBounds i u) t (0, 0)) := by
  simp [World.setCell, Array.getElem?_modify, h]
theorem blk_far {w : World} {g : Nat} {t : TypeId} {cs : Array Value} (h : w.heap[g]? = some (.cells cs t (0, 0))) {p : Addr} (hp : g ≠ p.block) (u : Value) : (w.setCell p u).heap[g]? = some (.cells cs t (0, 0)) := (Below.heap_setCell w p u g hp).trans h
theorem blk_lt {w : World} {g : Nat} {o : Obj} (h : w.heap[g]? = some o) : g < w.heap.size := (Array.getElem?_eq_some_iff.1 h).1
theorem blk_cell {w : World} {g : Nat} {t : TypeId} {cs : Array Value} (h : w.heap[g]? = some (.cells cs t (0, 0))) (i : Nat) : w.cell? ⟨g, i, none⟩ = cs[i]? := cell_of_row w g i cs t (0, 0) h
theorem blk_frozen {w : World} {g : Nat} {t : TypeId} {cs : Array Value} (h : w.heap[g]? = some (.cells cs t (0, 0))) (i : Nat) : w.frozen? ⟨g, i, none⟩ = false := by simp [World.frozen?, h]
theorem blk_grown {w w1 : World} {g : Nat} {o : Obj} {row : Option Nat} (h : w.heap[g]? = some o) (hg : w.grownBy w1 row) (hne : some g ≠ row) : w1.heap[g]? = some o := (hg.block g (blk_lt h) hne).trans h
def KeepBut (w w' : World) (g : Nat) (row : Option Nat) : Prop := w.heap.size ≤ w'.heap.size ∧ ∀ i, i < w.heap.size → i ≠ g → some i ≠ row → w'.heap[i]? = w.heap[i]?
theorem KeepBut.refl (w : World) (g : Nat) (row : Option Nat) : KeepBut w w g row := ⟨Nat.le_refl _, fun _ _ _ _ => rfl⟩
theorem KeepBut.of_below {w w1 : World} (h : Below w.heap.size w w1) (g : Nat) (row : Option Nat) : KeepBut w w1 g row := ⟨h.size, fun i hi _ _ => h.block i hi⟩
theorem KeepBut.trans {w w1 w2 : World} {g : Nat} {row row1 : Option Nat} (h : KeepBut w w1 g row) (k : KeepBut w1 w2 g row1) (hr : row1 = row ∨ ∃ b, row1 = some b ∧ w.heap.size ≤ b) : KeepBut w w2 g row :=
  ⟨Nat.le_trans h.1 k.1, fun i hi hg hn => by
    refine (k.2 i (Nat.lt_of_lt_of_le hi h.1) hg ?_).trans (h.2 i hi hg hn)
    rcases hr with rfl | ⟨b, rfl, hb⟩
    · exact hn
    · intro e
      injection e with e
      omega⟩
theorem KeepBut.blk {w w1 : World} {g g' : Nat} {row : Option Nat} {o : Obj} (h : KeepBut w w1 g row) (hb : w.heap[g']? = some o) (hg : g' ≠ g) (hr : some g' ≠ row) : w1.heap[g']? = some o := (h.2 g' (blk_lt hb) hg hr).trans hb
theorem KeepBut.own {w w1 : World} {g : Nat} {row : Option Nat} {base : Nat} {e : TypeId} {size n : Nat} {v : Value} {xs : List Value} (h : KeepBut w w1 g row) (ho : w.ownsRow base e size v n xs) (hg : v.ownBlock ≠ some g) (hr : v.ownBlock = none ∨ v.ownBlock ≠ row) : w1.ownsRow base e size v n xs := by
  obtain ⟨h1, h2⟩ := ho
  refine ⟨h1, ?_⟩
  rcases h2 with h2 | ⟨b, cap, cur, rfl, hb, hh, r⟩
  · exact .inl h2
  · refine .inr ⟨b, cap, cur, rfl, hb, h.blk hh ?_ ?_, r⟩
    · intro e
      exact hg (by rw [← e]; rfl)
    · rcases hr with hr | hr
      · simp [Value.ownBlock] at hr
      · exact hr
def Ev {α : Type} (g : Nat → Option α) (r : α) : Prop := ∃ K, ∀ k, K ≤ k → g k = some r
theorem Ev.now {α : Type} (r : α) : Ev (fun _ => some r) r := ⟨0, fun _ _ => rfl⟩
theorem Ev.bind {α β : Type} {g : Nat → Option α} {f : Nat → α → Option β} {a : α} {r : β} (h : Ev g a) (k : Ev (fun n => f n a) r) : Ev (fun n => (g n).bind (f n)) r := by
  obtain ⟨K, h⟩ := h
  obtain ⟨K', k⟩ := k
  refine ⟨max K K', fun n hn => ?_⟩
  have h1 := h n (by omega)
  have h2 := k n (by omega)
  simp only [h1, Option.bind_some]
  exact h2
theorem Ev.step {α : Type} {g f : Nat → Option α} {r : α} (h : ∀ k, g (k + 1) = f k) (k : Ev f r) : Ev g r := by
  obtain ⟨K, k⟩ := k
  refine ⟨K + 1, fun n hn => ?_⟩
  obtain ⟨m, rfl⟩ : ∃ m, n = m + 1 := ⟨n - 1, by omega⟩
  rw [h]
  exact k m (by omega)
theorem Ev.congr {α : Type} {g f : Nat → Option α} {r : α} (h : ∀ k, g k = f k) (k : Ev f r) : Ev g r := by
  obtain ⟨K, k⟩ := k
  exact ⟨K, fun n hn => (h n).trans (k n hn)⟩
section
variable {P : Program} {ops : Array Oper} {o : Oper} {a : Act} {Q : Exit → Act → World → Prop} {K : Act → World → Prop}
end
theorem own_weaken {w : World} {base base' : Nat} {e : TypeId} {size n : Nat} {v : Value} {xs : List Value} (h : w.ownsRow base e size v n xs) (hb : base' ≤ base) : w.ownsRow base' e size v n xs := by
  obtain ⟨h1, h2⟩ := h
  refine ⟨h1, ?_⟩
  rcases h2 with h2 | ⟨g, cap, cur, rfl, hg, r⟩
  · exact .inl h2
  · exact .inr ⟨g, cap, cur, rfl, Nat.le_trans hb hg, r⟩
section
variable {α : Type} {enc : α → Value} {d : α}
def rdOf (d : α) (xs : List α) (i : Int) : α := xs.getD i.toNat d
def ReadsOf (enc : α → Value) (d : α) (w : World) (A : Option Addr) (n : Nat) (xs : List α) : Prop :=
  xs.length = n ∧ n ≤ 9223372036854775807 ∧ (0 < n → ∃ ad, A = some ad ∧ ∀ j, j < n → w.cell? (ad.add j) = some (enc (xs.getD j d)))
theorem ReadsOf.at_ {w : World} {A : Option Addr} {n : Nat} {xs : List α} (h : ReadsOf enc d w A n xs) (i : Int) (h0 : 0 ≤ i) (h1 : i < n) : ∃ ad, A = some ad ∧ w.cell? (ad.add i.toNat) = some (enc (rdOf d xs i)) := by
  obtain ⟨ad, e, hc⟩ := h.2.2 (by omega)
  exact ⟨ad, e, hc _ (by omega)⟩
theorem ReadsOf.below {w w1 : World} {A : Option Addr} {n : Nat} {xs : List α} (h : ReadsOf enc d w A n xs) (hb : Below w.heap.size w w1) : ReadsOf enc d w1 A n xs :=
  ⟨h.1, h.2.1, fun hn => by
    obtain ⟨ad, e, hc⟩ := h.2.2 hn
    exact ⟨ad, e, fun j hj => pw_cell_below hb (hc j hj)⟩⟩
theorem ReadsOf.take_ {w : World} {A : Option Addr} {n : Nat} {xs : List α} (h : ReadsOf enc d w A n xs) (i : Nat) (hi : i ≤ n) : ReadsOf enc d w A i (xs.take i) := by
  refine ⟨by rw [List.length_take, h.1]; omega, by have := h.2.1; omega, fun hp => ?_⟩
  obtain ⟨ad, e, hc⟩ := h.2.2 (by omega)
  refine ⟨ad, e, fun j hj => ?_⟩
  rw [hc j (by omega)]
  simp [List.getD_eq_getElem?_getD, hj]
end
section
variable {α : Type} {P : Program} {ops : Array Oper} {rest : List Oper} {o : Oper} {a : Act} {Q : Exit → Act → World → Prop}
end
theorem blk_alloc {w : World} {g : Nat} {o : Obj} (h : w.heap[g]? = some o) (o' : Obj) : (w.alloc o').heap[g]? = some o := (Below.heap_alloc w o' g (blk_lt h)).trans h
theorem blk_drew {w : World} {g : Nat} {o : Obj} (h : w.heap[g]? = some o) : w.drew.heap[g]? = some o := h
theorem blk_drewN {w : World} {g : Nat} {o : Obj} (h : w.heap[g]? = some o) (n : Nat) : (w.drewN n).heap[g]? = some o := h
theorem blk_below {w w1 : World} {g : Nat} {o : Obj} (h : w.heap[g]? = some o) (hb : Below w.heap.size w w1) : w1.heap[g]? = some o := (hb.block g (blk_lt h)).trans h
theorem blk_new (w : World) (o : Obj) : (w.alloc o).heap[w.heap.size]? = some o := heap_alloc_new w o
section
variable {P : Program}
theorem results_ct {fn : Func} {p u : Tmp} {ty : TypeId} (h : fn.results = #[.cell p ty, .tmp u]) (tmps : Array Value) (w : World) (g : Nat) (t : TypeId) (cs : Array Value) (fr : Nat × Nat) (d : TypeDesc)
    (hp : tmps.getD p undef = .pointer (some ⟨g, 0, none⟩)) (hg : w.heap[g]? = some (.cells cs t fr))
    (hu : P.underlying ty = some d) (hd : (match d with | .struct _ | .array _ _ => true | _ => false) = true) (hi : (P.info? ty).map (·.size) = some cs.size) :
    (results fn tmps).run P w = .ok (.tuple #[.agg cs, tmps.getD u undef]) w := by
  have hp' : tmps[p]?.getD undef = .pointer (some ⟨g, 0, none⟩) := by simpa using hp
  simp [results, h, hp', asAddr, run_loadVar_row w g t ty cs fr d hg hu hd hi]
theorem results_ctt {fn : Func} {p u v : Tmp} {ty : TypeId} (h : fn.results = #[.cell p ty, .tmp u, .tmp v]) (tmps : Array Value) (w : World) (g : Nat) (t : TypeId) (cs : Array Value) (fr : Nat × Nat) (d : TypeDesc)
    (hp : tmps.getD p undef = .pointer (some ⟨g, 0, none⟩)) (hg : w.heap[g]? = some (.cells cs t fr))
    (hu : P.underlying ty = some d) (hd : (match d with | .struct _ | .array _ _ => true | _ => false) = true) (hi : (P.info? ty).map (·.size) = some cs.size) :
    (results fn tmps).run P w = .ok (.tuple #[.agg cs, tmps.getD u undef, tmps.getD v undef]) w := by
  have hp' : tmps[p]?.getD undef = .pointer (some ⟨g, 0, none⟩) := by simpa using hp
  simp [results, h, hp', asAddr, run_loadVar_row w g t ty cs fr d hg hu hd hi]
end
theorem own_le {w : World} {base n m c size : Nat} {e : TypeId} {A : Option Addr} {xs : List Value} (h : w.ownsRow base e size (.slice A m c) n xs) : m ≤ c := by
  rcases h.2 with ⟨he, _⟩ | ⟨g, cap, cur, he, _, _, hnc, _⟩
  · injection he with _ h2 h3
    omega
  · injection he with _ h2 h3
    omega
def OwnRow {α : Type} (R : α → List Value → Prop) (e : TypeId) (size : Nat) (w : World) (base : Nat) (v : Value) (ps : List α) : Prop :=
  ∃ inner, w.ownsRow base e size v ps.length inner ∧ Reps R size ps inner
section
variable {α : Type} {R R' : α → List Value → Prop} {e : TypeId} {size : Nat} {w w1 : World} {base : Nat} {v : Value} {ps : List α}
theorem OwnRow.none_ (R : α → List Value → Prop) (e : TypeId) (size : Nat) (w : World) (base : Nat) : OwnRow R e size w base (.slice none 0 0) [] := ⟨[], own_nil _ _ _ _, Reps.none _ _⟩
theorem OwnRow.imp_ (h : OwnRow R e size w base v ps) (hR : ∀ p c, R p c → R' p c) : OwnRow R' e size w base v ps := by
  obtain ⟨inner, ho, hr⟩ := h
  exact ⟨inner, ho, hr.imp_ hR⟩
theorem OwnRow.below (h : OwnRow R e size w base v ps) (hb : Below w.heap.size w w1) : OwnRow R e size w1 base v ps := by
  obtain ⟨inner, ho, hr⟩ := h
  exact ⟨inner, pw_own_below ho hb, hr⟩
theorem OwnRow.other (h : OwnRow R e size w base v ps) {row : Option Nat} (hg : w.grownBy w1 row) (hne : v.ownBlock = none ∨ v.ownBlock ≠ row) : OwnRow R e size w1 base v ps := by
  obtain ⟨inner, ho, hr⟩ := h
  exact ⟨inner, own_other ho hg hne, hr⟩
theorem OwnRow.reads (h : OwnRow R e size w base v ps) : ∃ A c, v = .slice A ps.length c ∧ ps.length ≤ c ∧ ReadsRow R size w A ps.length ps := by
  obtain ⟨inner, ho, hr⟩ := h
  obtain ⟨A, c, rfl, hrow⟩ := own_reads_row ho hr rfl
  exact ⟨A, c, rfl, own_le ho, hrow⟩
theorem OwnRow.ne_block (h : OwnRow R e size w base v ps) {g : Nat} {t : TypeId} {cells : Array Value} (hb : w.heap[g]? = some (.cells cells t (0, 0))) (ht : e ≠ t) : some g ≠ v.ownBlock := by
  obtain ⟨inner, ho, hr⟩ := h
  exact own_ne ho hb ht
end
section
variable {P : Program} {ops : Array Oper} {rest : List Oper} {o : Oper} {a : Act} {Q : Exit → Act → World → Prop} {α : Type} {R : α → List Value → Prop}
theorem OwnRow.append {w0 W : World} (base : Nat) (hgd : o.guard = none) (s x : Operand) (t e : TypeId) (z : Value) (size bytes : Nat)
    (ho : o.op = .call { callee := .builtin .append, args := #[s, x], argTypes := #[t, t] })
    (ht : P.underlying t = some (.slice e)) (hinfo : (P.info? e).map (fun i => (i.zero, i.size, i.bytes)) = some (some z, size, bytes)) (hz : z.cells.size = size) (hs0 : 0 < size) (hb0 : 0 < bytes)
    (v : Value) (ps : List α) (p : α) (cs : List Value) (hs : a.eval s = v) (hx : a.eval x = .slice (some ⟨W.heap.size, 0, none⟩) 1 1) (hp : R p cs) (hcs : cs.length = size) (h1 : ∀ u ∈ cs, u.oneCell' = true)
    (HO : OwnRow R e size W base v ps) (HB : Below base w0 W) (hbase : base ≤ W.heap.size) (hl : (ps.length + 1) * bytes ≤ 140737488355328)
    (h : ∀ v1 w1, OwnRow R e size w1 base v1 (ps ++ [p]) → Below base w0 w1 → W.grownBy w1 v.ownBlock → (v1.ownBlock = v.ownBlock ∨ ∃ b, v1.ownBlock = some b ∧ W.heap.size ≤ b) → wpList P ops Q rest (a.put o.dst v1) w1) :
    wpList P ops Q (o :: rest) a (W.alloc (.cells cs.toArray e)) := by
  obtain ⟨inner, hown, hr⟩ := HO
  refine print_append_cells base hgd s x t e z size bytes ho ht hinfo hz hs0 hb0 v ps.length inner cs hs hx hcs h1 hown HB hbase hl ?_
  intro v1 w1 hown1 hb1 hg1 hat1
  exact h v1 w1 ⟨inner ++ cs, by rw [List.length_append, List.length_singleton]; exact hown1, hr.snoc hp hcs⟩ hb1 hg1 hat1
end
section
variable {P : Program} {ops : Array Oper} {o : Oper} {a : Act} {Q : Exit → Act → World → Prop} {K : Act → World → Prop} {α : Type} {R : α → List Value → Prop}
end
section
variable {α : Type} {P : Program}
theorem print_take_of (enc : α → Value) (d : α) (t e : TypeId) (kl : IntKind) {i : TypeInfo} (ht : P.underlying t = some (.slice e)) (hi : P.info? e = some i) (hsz : i.size = 1) (A : Option Addr) (c : Nat) (xs : List α) (j : Int) (h0 : 0 ≤ j) (hm : j ≤ xs.length) (hc : xs.length ≤ c) :
    (∀ W : World, (Instr.slice t (.slice A xs.length c) none (some (.int kl j)) none).run P W = .ok (.slice A (xs.take j.toNat).length c) W) ∧
      (∀ w : World, ReadsOf enc d w A xs.length xs → ReadsOf enc d w A (xs.take j.toNat).length (xs.take j.toNat)) ∧ (xs.take j.toNat).length ≤ c := by
  have hl : (xs.take j.toNat).length = j.toNat := by rw [List.length_take]; omega
  refine ⟨fun W => ?_, fun w h => by rw [hl]; exact h.take_ j.toNat (by omega), by rw [hl]; omega⟩
  have hel : P.elem t = e := by simp [Program.elem, ht]
  have hu : P.underlying t = some (.slice (P.elem t)) := by rw [hel]; exact ht
  have ha : (A.map fun x => x.add 0) = A := by cases A <;> simp [Addr.add]
  rw [run_slice_h W t A xs.length c hu kl j h0 (by omega), hel, hl]
  simp [sizeOf, typeInfo, hi, hsz, sliced, Result.andThen, ha]
end
section
variable {P : Program} {ops : Array Oper} {rest : List Oper} {o : Oper} {a : Act} {Q : Exit → Act → World → Prop}
end
structure Kd (α : Type) where
  sz : Nat
  E : List Nat
  K : World → α → List Value → Prop
  M : World → Nat → (Nat → Prop) → α → List Value → Prop
  K_len : ∀ {w x cs}, K w x cs → cs.length = sz
  K_one : ∀ {w x cs}, K w x cs → ∀ u ∈ cs, u.oneCell' = true
  K_below : ∀ {w w1 : World} {x cs}, Below w.heap.size w w1 → K w x cs → K w1 x cs
  K_of_M : ∀ {w base ok x cs}, M w base ok x cs → K w x cs
  M_mono : ∀ {w base ok ok' x cs}, (∀ k, ok k → ok' k) → M w base ok x cs → M w base ok' x cs
  M_bound : ∀ {w : World} {base ok x cs}, M w base ok x cs → M w base (fun k => ok k ∧ base ≤ k ∧ k < w.heap.size ∧ ∃ q, q ∈ E ∧ ∃ cells, w.heap[k]? = some (.cells cells q (0, 0))) x cs
  M_move : ∀ {w w1 : World} {base ok x cs}, (∀ k, ok k → w1.heap[k]? = w.heap[k]?) → M w base ok x cs → M w1 base ok x cs
  M_lower : ∀ {w base base' ok x cs}, base' ≤ base → M w base ok x cs → M w base' ok x cs
theorem own_move {w w1 : World} {base : Nat} {e : TypeId} {size n : Nat} {v : Value} {xs : List Value} (h : w.ownsRow base e size v n xs) (hm : ∀ k, v.ownBlock = some k → w1.heap[k]? = w.heap[k]?) : w1.ownsRow base e size v n xs := by
  obtain ⟨h1, h2⟩ := h
  refine ⟨h1, ?_⟩
  rcases h2 with h2 | ⟨g, cap, cur, rfl, hg, hh, r⟩
  · exact .inl h2
  · exact .inr ⟨g, cap, cur, rfl, hg, (hm g (by simp [Value.ownBlock])).trans hh, r⟩
theorem own_typed {w : World} {base : Nat} {e : TypeId} {size n : Nat} {v : Value} {xs : List Value} (h : w.ownsRow base e size v n xs) (k : Nat) (hk : v.ownBlock = some k) : ∃ cells, w.heap[k]? = some (.cells cells e (0, 0)) := by
  rcases h.2 with ⟨rfl, _⟩ | ⟨g, cap, cur, rfl, hg, hh, r⟩
  · simp [Value.ownBlock] at hk
  · have : g = k := by simpa [Value.ownBlock] using hk
    subst this
    exact ⟨cur, hh⟩
namespace Kd
def C {α : Type} (d : Kd α) (w : World) (A : Option Addr) (n : Nat) (xs : List α) : Prop := ReadsRow (d.K w) d.sz w A n xs
def R {α : Type} (d : Kd α) (e : Nat) (w : World) (base : Nat) (ok : Nat → Prop) (v : Value) (xs : List α) : Prop :=
  (∀ k, v.ownBlock = some k → ok k) ∧ OwnRow (d.M w base (fun k => ok k ∧ some k ≠ v.ownBlock)) e d.sz w base v xs
section
variable {α : Type} {d : Kd α} {e : Nat} {w w1 : World} {base : Nat} {ok ok' : Nat → Prop} {v : Value} {xs : List α}
theorem C_below {A : Option Addr} {n : Nat} (h : d.C w A n xs) (hb : Below w.heap.size w w1) : d.C w1 A n xs := ReadsRow.imp_ h hb (fun _ _ hp => d.K_below hb hp)
theorem R_nil (d : Kd α) (e : Nat) (w : World) (base : Nat) (ok : Nat → Prop) : d.R e w base ok (.slice none 0 0) [] := ⟨fun k hk => by simp [Value.ownBlock] at hk, OwnRow.none_ _ _ _ _ _⟩
theorem R_mono (h : d.R e w base ok v xs) (hok : ∀ k, ok k → ok' k) : d.R e w base ok' v xs := ⟨fun k hk => hok k (h.1 k hk), h.2.imp_ (fun _ _ hp => d.M_mono (fun k hk => ⟨hok k hk.1, hk.2⟩) hp)⟩
theorem R_bound (h : d.R e w base ok v xs) : d.R e w base (fun k => ok k ∧ base ≤ k ∧ k < w.heap.size ∧ ∃ q, q ∈ e :: d.E ∧ ∃ cells, w.heap[k]? = some (.cells cells q (0, 0))) v xs := by
  obtain ⟨h0, inner, ho, hr⟩ := h
  refine ⟨fun k hk => ?_, inner, ho, hr.imp_ (fun _ _ hp => d.M_mono (fun k hk => ?_) (d.M_bound hp))⟩
  · obtain ⟨cells, hc⟩ := own_typed ho k hk
    exact ⟨h0 k hk, own_base ho k hk, own_lt ho k hk, e, List.mem_cons_self, cells, hc⟩
  · obtain ⟨⟨h1, h2⟩, h3, h4, q, hq, hc⟩ := hk
    exact ⟨⟨h1, h3, h4, q, List.mem_cons_of_mem _ hq, hc⟩, h2⟩
theorem R_move (h : d.R e w base ok v xs) (hm : ∀ k, ok k → w1.heap[k]? = w.heap[k]?) : d.R e w1 base ok v xs := by
  obtain ⟨h0, inner, ho, hr⟩ := h
  exact ⟨h0, inner, own_move ho (fun k hk => hm k (h0 k hk)), hr.imp_ (fun _ _ hp => d.M_move (fun k hk => hm k hk.1) hp)⟩
theorem R_lower {base' : Nat} (h : d.R e w base ok v xs) (hb : base' ≤ base) : d.R e w base' ok v xs := by
  obtain ⟨h0, inner, ho, hr⟩ := h
  exact ⟨h0, inner, own_weaken ho hb, hr.imp_ (fun _ _ hp => d.M_lower hb hp)⟩
theorem R_step (h : d.R e w base ok v xs) (hm : ∀ k, ok k → k < w.heap.size → w1.heap[k]? = w.heap[k]?) : d.R e w1 base ok v xs :=
  R_mono (R_move (R_bound h) (fun k hk => hm k hk.1 hk.2.2.1)) (fun _ hk => hk.1)
theorem M_step {x : α} {cs : List Value} (h : d.M w base ok x cs) (hm : ∀ k, ok k → k < w.heap.size → w1.heap[k]? = w.heap[k]?) : d.M w1 base ok x cs :=
  d.M_mono (fun _ hk => hk.1) (d.M_move (fun k hk => hm k hk.1 hk.2.2.1) (d.M_bound h))
theorem R_below (h : d.R e w base ok v xs) (hb : Below w.heap.size w w1) : d.R e w1 base ok v xs := R_step h (fun k _ hk => hb.block k hk)
theorem R_far (h : d.R e w base ok v xs) {p : Addr} (hok : ∀ k, ok k → k ≠ p.block) (u : Value) : d.R e (w.setCell p u) base ok v xs := R_step h (fun k ho _ => Below.heap_setCell w p u k (hok k ho))
theorem R_types (h : d.R e w base ok v xs) {g t : Nat} {cells : Array Value} (hb : w.heap[g]? = some (.cells cells t (0, 0))) (ht : ∀ q, q ∈ e :: d.E → q ≠ t) : d.R e w base (fun k => ok k ∧ k ≠ g) v xs :=
  R_mono (R_bound h) (fun k hk => ⟨hk.1, by
    obtain ⟨_, _, _, q, hq, cells', hc⟩ := hk
    rintro rfl
    rw [hc] at hb
    injection hb with hb
    injection hb with _ hb
    exact ht q hq hb⟩)
theorem R_reads (h : d.R e w base ok v xs) : ∃ A c, v = .slice A xs.length c ∧ xs.length ≤ c ∧ d.C w A xs.length xs := by
  obtain ⟨A, c, he, hl, hr⟩ := OwnRow.reads h.2
  exact ⟨A, c, he, hl, hr.imp_ (Below.refl _ _) (fun _ _ hp => d.K_of_M hp)⟩
theorem R_slice (h : d.R e w base ok v xs) : ∃ A c, v = .slice A xs.length c := by
  obtain ⟨A, c, he, _⟩ := R_reads h
  exact ⟨A, c, he⟩
theorem R_own (h : d.R e w base ok v xs) : ∃ inner, w.ownsRow base e d.sz v xs.length inner := by
  obtain ⟨_, inner, ho, _⟩ := h
  exact ⟨inner, ho⟩
theorem R_ne (h : d.R e w base ok v xs) {g t : Nat} {cells : Array Value} (hb : w.heap[g]? = some (.cells cells t (0, 0))) (ht : e ≠ t) : some g ≠ v.ownBlock := OwnRow.ne_block h.2 hb ht
end
def scalar {α : Type} (enc : α → Value) (h1 : ∀ x, (enc x).oneCell' = true) : Kd α where
  sz := 1
  E := []
  K := fun _ x cs => cs = [enc x]
  M := fun _ _ _ x cs => cs = [enc x]
  K_len := fun h => by rw [h]; rfl
  K_one := fun h u hu => by
    rw [h] at hu
    rw [List.mem_singleton.1 hu]
    exact h1 _
  K_below := fun _ h => h
  K_of_M := fun h => h
  M_mono := fun _ h => h
  M_bound := fun h => h
  M_move := fun _ h => h
  M_lower := fun _ h => h
def int (k : IntKind) : Kd Int := scalar (Value.int k) (fun _ => rfl)
def bool : Kd Bool := scalar Value.bool (fun _ => rfl)
def string : Kd ByteArray := scalar Value.string (fun _ => rfl)
def slice {α : Type} (e : Nat) (d : Kd α) : Kd (List α) where
  sz := 1
  E := e :: d.E
  K := fun w xs cs => ∃ A c, cs = [.slice A xs.length c] ∧ xs.length ≤ c ∧ d.C w A xs.length xs
  M := fun w base ok xs cs => ∃ v, cs = [v] ∧ d.R e w base ok v xs
  K_len := by
    rintro w x cs ⟨A, c, rfl, _⟩
    rfl
  K_one := by
    rintro w x cs ⟨A, c, rfl, _⟩ u hu
    rw [List.mem_singleton.1 hu]
    rfl
  K_below := by
    rintro w w1 x cs hb ⟨A, c, rfl, hl, hr⟩
    exact ⟨A, c, rfl, hl, C_below hr hb⟩
  K_of_M := by
    rintro w base ok x cs ⟨v, rfl, h⟩
    obtain ⟨A, c, rfl, hl, hr⟩ := R_reads h
    exact ⟨A, c, rfl, hl, hr⟩
  M_mono := by
    rintro w base ok ok' x cs hok ⟨v, rfl, h⟩
    exact ⟨v, rfl, R_mono h hok⟩
  M_bound := by
    rintro w base ok x cs ⟨v, rfl, h⟩
    exact ⟨v, rfl, R_bound h⟩
  M_move := by
    rintro w w1 base ok x cs hm ⟨v, rfl, h⟩
    exact ⟨v, rfl, R_move h hm⟩
  M_lower := by
    rintro w base base' ok x cs hb ⟨v, rfl, h⟩
    exact ⟨v, rfl, R_lower h hb⟩
def bot {α : Type} (sz : Nat) (E : List Nat) : Kd α where
  sz := sz
  E := E
  K := fun _ _ _ => False
  M := fun _ _ _ _ _ => False
  K_len := fun h => h.elim
  K_one := fun h => h.elim
  K_below := fun _ h => h
  K_of_M := fun h => h
  M_mono := fun _ h => h
  M_bound := fun h => h
  M_move := fun _ h => h
  M_lower := fun _ h => h
def upto {α : Type} (F : Kd α → Kd α) (sz : Nat) (E : List Nat) : Nat → Kd α
  | 0 => bot sz E
  | n + 1 => F (upto F sz E n)
theorem R_appended {α : Type} {d : Kd α} {e base : Nat} {ok okp : Nat → Prop} {W w1 : World} {v v1 : Value} {xs : List α} {p : α} {inner cs : List Value} (h0 : ∀ k, v.ownBlock = some k → ok k) (hr : Reps (d.M W base (fun k => ok k ∧ some k ≠ v.ownBlock)) d.sz xs inner) (hp : d.M W base okp p cs) (hokp : ∀ k, okp k → ok k ∧ some k ≠ v.ownBlock) (hfresh : ∀ k, W.heap.size ≤ k → ok k)
    (hown : w1.ownsRow base e d.sz v1 (xs.length + 1) (inner ++ cs)) (hg : W.grownBy w1 v.ownBlock) (hat : v1.ownBlock = v.ownBlock ∨ ∃ b, v1.ownBlock = some b ∧ W.heap.size ≤ b) : d.R e w1 base ok v1 (xs ++ [p]) := by
  have hne : ∀ k, some k ≠ v.ownBlock → k < W.heap.size → some k ≠ v1.ownBlock := by
    intro k hk hlt
    rcases hat with hat | ⟨b, hb, hle⟩
    · rw [hat]; exact hk
    · rw [hb]
      intro he
      injection he with he
      omega
  have step : ∀ {q : α} {c : List Value} {o : Nat → Prop}, d.M W base o q c → (∀ k, o k → ok k ∧ some k ≠ v.ownBlock) → d.M w1 base (fun k => ok k ∧ some k ≠ v1.ownBlock) q c := by
    intro q c o hq ho
    have h1 := d.M_move (w1 := w1) (fun k hk => hg.block k hk.2.2.1 (ho k hk.1).2) (d.M_bound hq)
    exact d.M_mono (fun k hk => ⟨(ho k hk.1).1, hne k (ho k hk.1).2 hk.2.2.1⟩) h1
  refine ⟨fun k hk => ?_, inner ++ cs, by rw [List.length_append, List.length_singleton]; exact hown, ?_⟩
  · rcases hat with hat | ⟨b, hb, hle⟩
    · exact h0 k (hat ▸ hk)
    · rw [hb] at hk
      injection hk with hk
      exact hfresh k (by omega)
  · exact (hr.imp_ (fun _ _ hq => step hq (fun _ hk => hk))).snoc (step hp hokp) (d.K_len (d.K_of_M hp))
section
variable {P : Program} {ops : Array Oper} {rest : List Oper} {o : Oper} {a : Act} {Q : Exit → Act → World → Prop} {α : Type}
theorem R_append (d : Kd α) {w0 W : World} (base : Nat) (hgd : o.guard = none) (s x : Operand) (t e : TypeId) (z : Value) (bytes : Nat)
    (ho : o.op = .call { callee := .builtin .append, args := #[s, x], argTypes := #[t, t] })
    (ht : P.underlying t = some (.slice e)) (hinfo : (P.info? e).map (fun i => (i.zero, i.size, i.bytes)) = some (some z, d.sz, bytes)) (hz : z.cells.size = d.sz) (hs0 : 0 < d.sz) (hb0 : 0 < bytes)
    (v : Value) (xs : List α) (p : α) (cs : List Value) (ok okp : Nat → Prop) (hs : a.eval s = v) (hx : a.eval x = .slice (some ⟨W.heap.size, 0, none⟩) 1 1) (hp : d.M W base okp p cs) (hokp : ∀ k, okp k → ok k ∧ some k ≠ v.ownBlock) (hfresh : ∀ k, W.heap.size ≤ k → ok k)
    (HO : d.R e W base ok v xs) (HB : Below base w0 W) (hbase : base ≤ W.heap.size) (hl : (xs.length + 1) * bytes ≤ 140737488355328)
    (h : ∀ v1 w1, d.R e w1 base ok v1 (xs ++ [p]) → Below base w0 w1 → W.grownBy w1 v.ownBlock → (v1.ownBlock = v.ownBlock ∨ ∃ b, v1.ownBlock = some b ∧ W.heap.size ≤ b) → wpList P ops Q rest (a.put o.dst v1) w1) :
    wpList P ops Q (o :: rest) a (W.alloc (.cells cs.toArray e)) := by
  obtain ⟨h0, inner, hown, hr⟩ := HO
  refine print_append_cells base hgd s x t e z d.sz bytes ho ht hinfo hz hs0 hb0 v xs.length inner cs hs hx (d.K_len (d.K_of_M hp)) (d.K_one (d.K_of_M hp)) hown HB hbase hl ?_
  intro v1 w1 hown1 hb1 hg1 hat1
  exact h v1 w1 (R_appended h0 hr hp hokp hfresh hown1 hg1 hat1) hb1 hg1 hat1
end
section
variable {P : Program} {ops : Array Oper} {o : Oper} {a : Act} {Q : Exit → Act → World → Prop} {Kc : Act → World → Prop} {α : Type}
end
theorem C_of_reads {α : Type} {enc : α → Value} {d : α} {h1 : ∀ x, (enc x).oneCell' = true} {w : World} {A : Option Addr} {n : Nat} {xs : List α} (h : ReadsOf enc d w A n xs) : (scalar enc h1).C w A n xs := by
  refine ⟨h.1, h.2.1, fun hn => ?_⟩
  obtain ⟨ad, e, hc⟩ := h.2.2 hn
  refine ⟨ad, e, fun j p hj => ⟨[enc p], rfl, rfl, fun i u hu => ?_⟩⟩
  obtain ⟨hl, hp⟩ := List.getElem?_eq_some_iff.1 hj
  have h2 := hc j (by have := h.1; omega)
  rw [List.getD_eq_getElem?_getD, hj] at h2
  cases i with
  | zero =>
    have : enc p = u := by simpa using hu
    subst this
    simpa [scalar] using h2
  | succ i => simp at hu
theorem reads_of_C {α : Type} {enc : α → Value} {d : α} {h1 : ∀ x, (enc x).oneCell' = true} {w : World} {A : Option Addr} {n : Nat} {xs : List α} (h : (scalar enc h1).C w A n xs) : ReadsOf enc d w A n xs := by
  refine ⟨h.1, h.2.1, fun hn => ?_⟩
  obtain ⟨ad, e, hc⟩ := h.2.2 hn
  refine ⟨ad, e, fun j hj => ?_⟩
  have hl : j < xs.length := by have := h.1; omega
  obtain ⟨c, _, hK, hcell⟩ := hc j _ (List.getElem?_eq_getElem hl)
  have hK' : c = [enc xs[j]] := hK
  subst hK'
  have := hcell 0 _ rfl
  simpa [scalar, List.getD_eq_getElem?_getD, List.getElem?_eq_getElem hl] using this
end Kd
namespace Kd
section
variable {α : Type} {F : Kd α → Kd α} {sz : Nat} {E : List Nat} {hs : ∀ n, (upto F sz E n).sz = sz} {hE : ∀ n q, q ∈ (upto F sz E n).E → q ∈ E}
end
end Kd
namespace Kd
end Kd
namespace Kd
section
variable {α β : Type} {d : Kd α} {d' : Kd β} {e e' : Nat} {w w1 W : World} {base b b' : Nat} {ok ok' okv oku : Nat → Prop} {v u : Value} {xs : List α} {ys : List β}
theorem R_alloc (h : d.R e w base ok v xs) (o : Obj) : d.R e (w.alloc o) base ok v xs := R_below h (below_alloc (Below.refl _ _) o)
theorem R_drew (h : d.R e w base ok v xs) : d.R e w.drew base ok v xs := R_below h (below_drew (Below.refl _ _))
theorem R_drewN (h : d.R e w base ok v xs) (m : Nat) : d.R e (w.drewN m) base ok v xs := R_below h (pw_below_drewN (Below.refl _ _) m)
theorem C_alloc {A : Option Addr} {n : Nat} (h : d.C w A n xs) (o : Obj) : d.C (w.alloc o) A n xs := C_below h (below_alloc (Below.refl _ _) o)
theorem C_drew {A : Option Addr} {n : Nat} (h : d.C w A n xs) : d.C w.drew A n xs := C_below h (below_drew (Below.refl _ _))
theorem C_drewN {A : Option Addr} {n : Nat} (h : d.C w A n xs) (m : Nat) : d.C (w.drewN m) A n xs := C_below h (pw_below_drewN (Below.refl _ _) m)
theorem C_nil (d : Kd α) (w : World) : d.C w none ([] : List α).length [] := ⟨rfl, by simp, fun h => absurd h (Nat.lt_irrefl 0)⟩
theorem R_reads' {A : Option Addr} {n c : Nat} (h : d.R e w base ok (.slice A n c) xs) : n = xs.length ∧ n ≤ c ∧ d.C w A xs.length xs := by
  obtain ⟨A', c', he, hl, hr⟩ := R_reads h
  injection he with h1 h2 h3
  subst h1
  exact ⟨h2, by omega, hr⟩
theorem R_base (h : d.R e w base ok v xs) : ∀ k, v.ownBlock = some k → base ≤ k := by
  obtain ⟨inner, ho⟩ := R_own h
  exact own_base ho
end
section
variable {w W : World} {A : Option Addr} {n : Nat}
theorem at_string {xs : List ByteArray} (h : Kd.string.C w A n xs) (i : Int) (h0 : 0 ≤ i) (h1 : i < n) : ∃ ad, A = some ad ∧ w.cell? (ad.add i.toNat) = some (.string (rdOf ByteArray.empty xs i)) :=
  ReadsOf.at_ (reads_of_C (enc := Value.string) (d := ByteArray.empty) (h1 := fun _ => rfl) h) i h0 h1
variable {α : Type} {enc : α → Value} {h1 : ∀ x, (enc x).oneCell' = true} {e base g cap : Nat} {ok : Nat → Prop} {xs : List α}
end
section
variable {P : Program} {ops : Array Oper} {rest : List Oper} {o : Oper} {a : Act} {Q : Exit → Act → World → Prop}
theorem event_run {W w1 : World} {v : Value} (hgd : o.guard = none) (hrun : (execOp a.eval o).run P W = .ok (.value v) w1) (h : wpList P ops Q rest (a.put o.dst v) w1) : wpList P ops Q (o :: rest) a W := by
  refine wpList_plain hgd fun K hK => ?_
  unfold Oper.wp
  rw [hrun]
  exact hK _ _ h
variable {α : Type}
end
end Kd
section
variable {P : Program}
end
def QRow (w : World) (base : Nat) (e : TypeId) (size : Nat) (v : Value) (n : Nat) (xs : List Value) : Prop :=
  xs.length = n * size ∧
  ((n = 0 ∧ ∃ A, v = .slice A 0 0 ∧ ∀ a, A = some a → base ≤ a.block ∧ ∃ cur, w.heap[a.block]? = some (.cells cur e (0, 0))) ∨
   ∃ g off cap cur, v = .slice (some ⟨g, off * size, none⟩) n cap ∧ base ≤ g ∧ w.heap[g]? = some (.cells cur e (0, 0)) ∧ n ≤ cap ∧ off + cap ≤ maxLen ∧ cur.size = (off + cap) * size ∧ (cur.toList.drop (off * size)).take (n * size) = xs)
section
variable {w w1 : World} {base n size : Nat} {e : TypeId} {v : Value} {xs : List Value}
theorem q_of_own (h : w.ownsRow base e size v n xs) : QRow w base e size v n xs := by
  obtain ⟨h1, h2⟩ := h
  refine ⟨h1, ?_⟩
  rcases h2 with ⟨rfl, h0⟩ | ⟨g, cap, cur, rfl, hb, hh, hnc, hcm, hcs, ht⟩
  · exact .inl ⟨h0, none, rfl, fun a ha => by cases ha⟩
  · exact .inr ⟨g, 0, cap, cur, by rw [Nat.zero_mul], hb, hh, hnc, by rw [Nat.zero_add]; exact hcm, by rw [Nat.zero_add]; exact hcs, by rw [Nat.zero_mul, List.drop_zero]; exact ht⟩
end
section
variable {P : Program}
end
namespace Kd
def Q {α : Type} (d : Kd α) (e : Nat) (w : World) (base : Nat) (ok : Nat → Prop) (v : Value) (xs : List α) : Prop :=
  (∀ k, v.ownBlock = some k → ok k) ∧ ∃ inner, QRow w base e d.sz v xs.length inner ∧ Reps (d.M w base (fun k => ok k ∧ some k ≠ v.ownBlock)) d.sz xs inner
section
variable {α : Type} {d : Kd α} {e : Nat} {w w1 W : World} {base : Nat} {ok ok' : Nat → Prop} {v : Value} {xs : List α}
theorem Q_of_R (h : d.R e w base ok v xs) : d.Q e w base ok v xs := by
  obtain ⟨h0, inner, ho, hr⟩ := h
  exact ⟨h0, inner, q_of_own ho, hr⟩
theorem Q_nil (d : Kd α) (e : Nat) (w : World) (base : Nat) (ok : Nat → Prop) : d.Q e w base ok (.slice none 0 0) [] := Q_of_R (R_nil d e w base ok)
end
section
variable {P : Program} {ops : Array Oper} {rest : List Oper} {o : Oper} {a : Act} {Q' : Exit → Act → World → Prop} {Kc : Act → World → Prop} {α : Type}
end
end Kd
namespace Kd
section
variable {α : Type} {d : Kd α} {e e' : Nat} {w w1 W : World} {base : Nat} {ok : Nat → Prop} {u v : Value} {xs : List α}
end
end Kd
namespace Kd
section
variable {α : Type} {d : Kd α} {e base g n cap : Nat} {ok okp : Nat → Prop} {W : World} {xs : List α}
end
end Kd
namespace Kd
section
variable {α : Type} {F : Kd α → Kd α} {sz : Nat} {E : List Nat} {hs : ∀ n, (upto F sz E n).sz = sz} {hE : ∀ n q, q ∈ (upto F sz E n).E → q ∈ E}
end
end Kd
namespace Kd
section
variable {P : Program} {ops : Array Oper} {rest : List Oper} {o : Oper} {a : Act} {Q : Exit → Act → World → Prop} {α : Type}
end
end Kd
namespace Kd
section
variable {P : Program} {ops : Array Oper} {rest : List Oper} {o : Oper} {a : Act} {Q : Exit → Act → World → Prop} {α : Type}
end
end Kd
namespace Kd
section
variable {α : Type} {k : Kd α} {w : World} {A : Option Addr} {xs : List α} {m c : Nat}
end
end Kd
section
variable {P : Program}
end
theorem below_size {w W : World} (h : Below w.heap.size w W) : w.heap.size ≤ W.heap.size := h.size
theorem below_step {w W w2 : World} (h : Below w.heap.size w W) (k : Below W.heap.size W w2) : Below w.heap.size w w2 := below_then h h.size k
theorem ReadsInt.nil (W : World) (k : IntKind) : ReadsInt W k none ([] : List Int).length [] := ⟨rfl, by simp, fun h => absurd h (Nat.lt_irrefl 0)⟩
theorem ReadsInt.drewN {W : World} {k : IntKind} {A : Option Addr} {n : Nat} {xs : List Int} (h : ReadsInt W k A n xs) (m : Nat) : ReadsInt (W.drewN m) k A n xs := h
theorem below_set {w W : World} {g j : Nat} {v : Value} (h : Below w.heap.size w W) (hg : w.heap.size ≤ g) : Below w.heap.size w (W.setCell ⟨g, j, none⟩ v) := h.setCell hg _
theorem add_block (a : Addr) (i : Nat) : (a.add i).block = a.block := by unfold Addr.add; split <;> rfl
theorem ReadsOf.nil {α : Type} (enc : α → Value) (d : α) (W : World) : ReadsOf enc d W none ([] : List α).length [] := ⟨rfl, by simp, fun h => absurd h (Nat.lt_irrefl 0)⟩
theorem ReadsOf.drewN {α : Type} {enc : α → Value} {d : α} {W : World} {A : Option Addr} {n : Nat} {xs : List α} (h : ReadsOf enc d W A n xs) (m : Nat) : ReadsOf enc d (W.drewN m) A n xs := h
theorem cell_far {W : World} {p a : Addr} (h : a.block ≠ p.block) (u : Value) : (W.setCell p u).cell? a = W.cell? a := by
  have := Below.heap_setCell W p u a.block h
  simp [World.cell?, this]
theorem blk_put {w : World} {g : Nat} {t : TypeId} {cs cs' : Array Value} (h : w.heap[g]? = some (.cells cs t (0, 0))) (i : Nat) (u : Value) (e : cs.setIfInBounds i u = cs') : (w.setCell ⟨g, i, none⟩ u).heap[g]? = some (.cells cs' t (0, 0)) := e ▸ blk_set h i u
theorem own_blk {W : World} {base n c : Nat} {e : TypeId} {size g : Nat} {ad : Addr} {xs : List Value} (_ : W.ownsRow base e size (.slice (some ad) n c) n xs) (hne : some g ≠ (Value.slice (some ad) n c).ownBlock) : ad.block ≠ g := by
  rintro rfl
  exact hne (by simp [Value.ownBlock])
theorem below_drew1 {base : Nat} {w W : World} (h : Below base w W) : Below base w W.drew := h.drew
namespace Kd
section
variable {α β : Type} {d : Kd α} {d' : Kd β} {e e' base base' n : Nat} {ok ok' : Nat → Prop} {w W w1 W1 : World} {v u : Value} {xs : List α} {ys : List β} {A : Option Addr} {c : Nat}
theorem own_blk {ad : Addr} {g : Nat} (hne : some g ≠ (Value.slice (some ad) n c).ownBlock) : ad.block ≠ g := by
  rintro rfl
  exact hne (by simp [Value.ownBlock])
end
section
variable {α : Type} {enc : α → Value} {h1 : ∀ x, (enc x).oneCell' = true} {w W : World} {A : Option Addr} {n g : Nat} {xs : List α}
end
end Kd
namespace Kd
section
variable {α : Type} {d : Kd α} {e base g : Nat} {ok : Nat → Prop} {w w1 : World} {v : Value} {xs : List α} {o : Obj}
theorem freshB (hb : w.heap[g]? = some o) : ∀ k, w.heap.size ≤ k → k ≠ g := fun k hk => by have := blk_lt hb; omega
end
end Kd
section
variable {P : Program} {ops : Array Oper} {rest : List Oper} {o : Oper} {a : Act} {Q : Exit → Act → World → Prop}
theorem box_event {W : World} (hgd : o.guard = none) {N : Tmp} (_hd : o.dst = some N) {cs : Array Value} {t : TypeId}
    (hrun : (execOp a.eval o).run P W = .ok (.value (.pointer (some ⟨W.heap.size, 0, none⟩))) (W.alloc (.cells cs t (0, 0))))
    (h : ∀ g, g = W.heap.size → ∀ w1, w1.heap[g]? = some (.cells cs t (0, 0)) → Below W.heap.size W w1 → wpList P ops Q rest (a.put o.dst (.pointer (some ⟨g, 0, none⟩))) w1) : wpList P ops Q (o :: rest) a W :=
  Kd.event_run hgd hrun (h _ rfl _ (blk_new W _) (below_alloc (Below.refl _ _) _))
end
namespace Kd
section
variable {α : Type} {enc : α → Value} {h1 : ∀ x, (enc x).oneCell' = true} {e base g n cap : Nat} {ok : Nat → Prop} {W : World} {xs : List α}
end
end Kd
section
variable {P : Program} {ops : Array Oper} {rest : List Oper} {o : Oper} {a : Act} {Q : Exit → Act → World → Prop}
theorem store_event {W w1 : World} (hgd : o.guard = none) {t : TypeId} {p : Tmp} {v : Operand} (_ho : o.op = .store t (.tmp p) v) (hN : o.dst = none)
    (hrun : (execOp a.eval o).run P W = .ok .skip w1) (h : ∀ w', w' = w1 → wpList P ops Q rest a w') : wpList P ops Q (o :: rest) a W := by
  refine wpList_plain hgd fun K hK => ?_
  unfold Oper.wp
  rw [hrun]
  show K (a.put o.dst undef) w1
  rw [hN]
  exact hK _ _ (h _ rfl)
end
namespace Kd
section
variable {α : Type} {enc : α → Value} {h1 : ∀ x, (enc x).oneCell' = true} {e base g n cap : Nat} {ok : Nat → Prop} {W : World} {xs : List α}
end
end Kd
section
variable {P : Program} {ops : Array Oper} {rest : List Oper} {o : Oper} {a : Act} {Q : Exit → Act → World → Prop} {W : World}
theorem gate_dst {N : Tmp} (_hN : o.dst = some N) (h : wpList P ops Q (o :: rest) a W) : wpList P ops Q (o :: rest) a W := h
theorem gate_store {t : TypeId} {p : Tmp} {v : Operand} (_ho : o.op = .store t (.tmp p) v) (h : wpList P ops Q (o :: rest) a W) : wpList P ops Q (o :: rest) a W := h
end
section
variable {P : Program} {ops : Array Oper} {o : Oper} {a : Act} {Q : Exit → Act → World → Prop} {Kc : Act → World → Prop}
namespace Kd
variable {α : Type}
end Kd
end
section
variable {P : Program} {tmps : Array Value} {w : World}
end
namespace Kd
section
variable {P : Program} {α : Type}
end
section
variable {P : Program} {ops : Array Oper} {rest : List Oper} {o : Oper} {a : Act} {Q : Exit → Act → World → Prop} {Kc : Act → World → Prop} {α : Type}
end
end Kd
end Go.Proofs.YtopaddpclipnjaaW.PrintWords
namespace Go.Proofs.YtopaddpclipnjaaW.PrintLast
section
variable {P : Program} {ops : Array Oper} {Q : Exit → Act → World → Prop} {md : Region.Mode} {S : World → Prop} {ds : List Nat}
def Region.reachB (md : Region.Mode) (ops : Array Oper) (i : Nat) : Nat → Nat → Bool
  | 0, _ => false
  | fuel + 1, d => match ops[d]? with
    | some o => o.after.any fun e => Region.binds md e && (e.on == i || Region.reachB md ops i fuel e.on)
    | none => false
def Region.closedB (md : Region.Mode) (ops : Array Oper) (listed : Array Bool) : Bool :=
  (List.range ops.size).all fun j => !listed.getD j false || match ops[j]? with
    | some o => o.after.all fun e => !Region.binds md e || listed.getD e.on false
    | none => true
def Region.lastB (md : Region.Mode) (ops : Array Oper) (listed : Array Bool) (ds : List Nat) (i : Nat) : Bool :=
  ds.all fun d => listed.getD d true || Region.reachB md ops i ops.size d
def ListedClosed (md : Region.Mode) (ops : Array Oper) (listed : Array Bool) : Prop :=
  ∀ j oj, ops[j]? = some oj → listed.getD j false = true → ∀ e ∈ oj.after, Region.binds md e = true → listed.getD e.on false = true
theorem Region.closedB_spec {listed : Array Bool} (h : Region.closedB md ops listed = true) : ListedClosed md ops listed := by
  intro j oj hj hl e he hb
  have hlt : j < ops.size := (Array.getElem?_eq_some_iff.1 hj).1
  have h1 := List.all_eq_true.1 h j (List.mem_range.2 hlt)
  simp only [hl, hj, Bool.not_true, Bool.false_or] at h1
  have h2 := Array.all_eq_true_iff_forall_mem.1 h1 e he
  simpa [hb] using h2
theorem ListedClosed.set {listed : Array Bool} {i : Nat} (h : ListedClosed md ops listed) (hi : i ∈ Region.ready md ops listed) : ListedClosed md ops (listed.setIfInBounds i true) := by
  obtain ⟨_, oi, hoi, hall⟩ := mem_ready.1 hi
  intro j oj hj hl e he hb
  by_cases hij : i = j
  · subst hij
    have : oj = oi := Option.some.inj (hj.symm.trans hoi)
    subst this
    exact getD_set_true (hall e he hb)
  · rw [getD_set_ne false hij] at hl
    exact getD_set_true (h j oj hj hl e he hb)
theorem Region.reach_listed {listed : Array Bool} {i : Nat} (hc : ListedClosed md ops listed) : ∀ (fuel d : Nat), Region.reachB md ops i fuel d = true → listed.getD d false = true → listed.getD i false = true
  | 0, _, h, _ => by simp [Region.reachB] at h
  | fuel + 1, d, h, hl => by
    unfold Region.reachB at h
    cases ho : ops[d]? with
    | none => rw [ho] at h; simp at h
    | some o =>
      rw [ho] at h
      obtain ⟨e, he, h1⟩ := Array.any_eq_true'.1 h
      simp only [Bool.and_eq_true, Bool.or_eq_true, beq_iff_eq] at h1
      have hle := hc d o ho hl e he h1.1
      rcases h1.2 with h2 | h2
      · rw [← h2]; exact hle
      · exact Region.reach_listed hc fuel e.on h2 hle
theorem Region.reach_not_ready {listed : Array Bool} {i d fuel : Nat} (hc : ListedClosed md ops listed) (hr : Region.reachB md ops i fuel d = true) (hun : listed.getD i true = false) : d ∉ Region.ready md ops listed := by
  intro hd
  obtain ⟨_, o, ho, hall⟩ := mem_ready.1 hd
  have hi : listed.getD i false = true := by
    cases fuel with
    | zero => simp [Region.reachB] at hr
    | succ n =>
      unfold Region.reachB at hr
      rw [ho] at hr
      obtain ⟨e, he, h1⟩ := Array.any_eq_true'.1 hr
      simp only [Bool.and_eq_true, Bool.or_eq_true, beq_iff_eq] at h1
      have hle := hall e he h1.1
      rcases h1.2 with h2 | h2
      · rw [← h2]; exact hle
      · exact Region.reach_listed hc n e.on h2 hle
  rcases Nat.lt_or_ge i listed.size with h' | h'
  · simp [h'] at hun hi
    rw [hun] at hi
    cases hi
  · simp [Array.getElem?_eq_none h'] at hun
def wpAnyLast (P : Program) (md : Region.Mode) (ops : Array Oper) (Q : Exit → Act → World → Prop) (S : World → Prop) (ds : List Nat) : Nat → Array Bool → Act → World → Prop
  | 0, listed, a, w => Region.ready md ops listed = [] ∧ Q .normal a w
  | fuel + 1, listed, a, w =>
    (Region.ready md ops listed = [] → Q .normal a w) ∧
    ∀ i ∈ Region.ready md ops listed, wpOp P ops Q i (fun a' w' => (i ∉ ds → S w → S w') ∧ wpAnyLast P md ops Q S ds fuel (listed.setIfInBounds i true) a' w') a w
theorem wpAny_of_last : ∀ (fuel : Nat) (listed : Array Bool) (a : Act) (w : World), wpAnyLast P md ops Q S ds fuel listed a w → wpAny P md ops Q fuel listed a w
  | 0, _, _, _, h => h
  | fuel + 1, _, _, _, h => ⟨h.1, fun i hi => wpOp_mono (fun a' w' h' => wpAny_of_last fuel _ a' w' h'.2) (h.2 i hi)⟩
theorem wpAnyLast_first {i : Nat} {oi : Oper} {v : Value} (hi : ops[i]? = some oi) (hsel : ∀ (j : Nat) (o : Oper) cs b, ops[j]? = some o → o.op ≠ .select cs b)
    (hQ : ∀ c a w, Q (.panic c) (a.put oi.dst v) w → Q (.panic c) a w) (n : Nat) :
    ∀ (fuel : Nat) (listed : Array Bool) (a : Act) (w : World),
      (∀ j oj, ops[j]? = some oj → j ≠ i → listed.getD j true = false → (∀ e ∈ oj.after, Region.binds md e = true → e.on ≠ i) → oi.apart ops oj = true) →
      ListedClosed md ops listed → (∀ d ∈ ds, listed.getD d true = false → Region.reachB md ops i n d = true) →
      i ∈ Region.ready md ops listed → YieldsIf P ops S oi v a → S w →
      wpAnyLast P md ops Q S ds fuel (listed.setIfInBounds i true) (a.put oi.dst v) w → wpAnyLast P md ops Q S ds (fuel + 1) listed a w := by
  intro fuel
  induction fuel with
  | zero =>
    intro listed a w _ _ _ hr hy hS H
    refine ⟨fun h => (by rw [h] at hr; cases hr), fun j hj => ?_⟩
    by_cases hji : j = i
    · subst hji; exact hy.wpOp hi hS ⟨fun _ h => h, H⟩
    · have := ready_mono hj hji
      rw [H.1] at this
      cases this
  | succ fuel ih =>
    intro listed a w hfree hc hd hr hy hS H
    refine ⟨fun h => (by rw [h] at hr; cases hr), fun j hj => ?_⟩
    by_cases hji : j = i
    · subst hji; exact hy.wpOp hi hS ⟨fun _ h => h, H⟩
    · have h1 := H.2 j (ready_mono hj hji)
      obtain ⟨hjun, oj, hoj, hall⟩ := mem_ready.1 hj
      have hiun := (mem_ready.1 hr).1
      have hnot : ∀ e ∈ oj.after, Region.binds md e = true → e.on ≠ i := fun e he hb heq => by
        have h1 := hall e he hb
        rw [heq] at h1
        rcases Nat.lt_or_ge i listed.size with h' | h'
        · simp [h'] at hiun h1; rw [hiun] at h1; cases h1
        · simp [Array.getElem?_eq_none h'] at h1
      have hjd : j ∉ ds := fun hm => Region.reach_not_ready hc (hd j hm hjun) hiun hj
      have h2 := wpOp_putIf hoj (hfree j oj hoj hji hjun hnot) (fun cs b => hsel i oi cs b hi) (fun cs b => hsel j oj cs b hoj) hQ hy h1
      have hfree' : ∀ k ok, ops[k]? = some ok → k ≠ i → (listed.setIfInBounds j true).getD k true = false →
          (∀ e ∈ ok.after, Region.binds md e = true → e.on ≠ i) → oi.apart ops ok = true := fun k ok hk hki hun hno => by
        refine hfree k ok hk hki ?_ hno
        by_cases hjk : j = k
        · subst hjk; exact hjun
        · rw [getD_set_ne true hjk] at hun; exact hun
      have hd' : ∀ d ∈ ds, (listed.setIfInBounds j true).getD d true = false → Region.reachB md ops i n d = true := fun d hm hun => by
        refine hd d hm ?_
        by_cases hjk : j = d
        · subst hjk; exact hjun
        · rw [getD_set_ne true hjk] at hun; exact hun
      refine wpOp_mono (fun a' w' h3 => ⟨h3.2.1, ih (listed.setIfInBounds j true) a' w' hfree' (hc.set hj) hd' (ready_mono hr (Ne.symm hji)) h3.1 (h3.2.1 hjd hS) ?_⟩) h2
      rw [Array.setIfInBounds_comm _ _ hji]
      exact h3.2.2
theorem wpAnyLast_any {i : Nat} {oi : Oper} {v : Value} (hi : ops[i]? = some oi) (hsel : ∀ (j : Nat) (o : Oper) cs b, ops[j]? = some o → o.op ≠ .select cs b)
    (hQ : ∀ c a w, Q (.panic c) (a.put oi.dst v) w → Q (.panic c) a w) :
    ∀ (fuel : Nat) (listed : Array Bool) (a : Act) (w : World),
      (∀ j oj, ops[j]? = some oj → j ≠ i → listed.getD j true = false → (∀ e ∈ oj.after, Region.binds md e = true → e.on ≠ i) → oi.apart ops oj = true) →
      i ∈ Region.ready md ops listed → Yields P ops oi v a →
      wpAnyLast P md ops Q S ds fuel (listed.setIfInBounds i true) (a.put oi.dst v) w → wpAnyLast P md ops Q S ds (fuel + 1) listed a w := by
  intro fuel
  induction fuel with
  | zero =>
    intro listed a w _ hr hy H
    refine ⟨fun h => (by rw [h] at hr; cases hr), fun j hj => ?_⟩
    by_cases hji : j = i
    · subst hji; exact (hy.yieldsIf (S := fun _ => True)).wpOp hi trivial ⟨fun _ h => h, H⟩
    · have := ready_mono hj hji
      rw [H.1] at this
      cases this
  | succ fuel ih =>
    intro listed a w hfree hr hy H
    refine ⟨fun h => (by rw [h] at hr; cases hr), fun j hj => ?_⟩
    by_cases hji : j = i
    · subst hji; exact (hy.yieldsIf (S := fun _ => True)).wpOp hi trivial ⟨fun _ h => h, H⟩
    · have h1 := H.2 j (ready_mono hj hji)
      obtain ⟨hjun, oj, hoj, hall⟩ := mem_ready.1 hj
      have hiun := (mem_ready.1 hr).1
      have hnot : ∀ e ∈ oj.after, Region.binds md e = true → e.on ≠ i := fun e he hb heq => by
        have h1 := hall e he hb
        rw [heq] at h1
        rcases Nat.lt_or_ge i listed.size with h' | h'
        · simp [h'] at hiun h1; rw [hiun] at h1; cases h1
        · simp [Array.getElem?_eq_none h'] at h1
      have h2 := wpOp_put hoj (hfree j oj hoj hji hjun hnot) (fun cs b => hsel i oi cs b hi) (fun cs b => hsel j oj cs b hoj) hQ hy h1
      have hfree' : ∀ k ok, ops[k]? = some ok → k ≠ i → (listed.setIfInBounds j true).getD k true = false →
          (∀ e ∈ ok.after, Region.binds md e = true → e.on ≠ i) → oi.apart ops ok = true := fun k ok hk hki hun hno => by
        refine hfree k ok hk hki ?_ hno
        by_cases hjk : j = k
        · subst hjk; exact hjun
        · rw [getD_set_ne true hjk] at hun; exact hun
      refine wpOp_mono (fun a' w' h3 => ⟨h3.2.1, ih (listed.setIfInBounds j true) a' w' hfree' (ready_mono hr (Ne.symm hji)) h3.1 ?_⟩) h2
      rw [Array.setIfInBounds_comm _ _ hji]
      exact h3.2.2
theorem wpAnyLast_take {i : Nat} {oi : Oper} {v : Value} {fuel : Nat} {listed : Array Bool} {a : Act} {w : World} (hi : ops[i]? = some oi)
    (hs : Region.noSelect ops = true) (hf : Region.free md ops listed i = true) (hr : (Region.ready md ops listed).contains i = true)
    (hc : Region.closedB md ops listed = true) (hl : Region.lastB md ops listed ds i = true)
    (hQ : ∀ c a w, Q (.panic c) (a.put oi.dst v) w → Q (.panic c) a w) (hy : YieldsIf P ops S oi v a) (hS : S w)
    (h : wpAnyLast P md ops Q S ds fuel (listed.setIfInBounds i true) (a.put oi.dst v) w) : wpAnyLast P md ops Q S ds (fuel + 1) listed a w :=
  wpAnyLast_first hi (Region.noSelect_spec hs) hQ ops.size fuel listed a w (Region.free_spec hi hf) (Region.closedB_spec hc)
    (fun d hm hun => by have := List.all_eq_true.1 hl d hm; rw [hun] at this; simpa using this) (by simpa using hr) hy hS h
theorem wpAnyLast_all {rs : List Nat} {fuel : Nat} {listed : Array Bool} {a : Act} {w : World} (hr : Region.ready md ops listed = rs) (hne : rs ≠ [])
    (h : ∀ i ∈ rs, wpOp P ops Q i (fun a' w' => (i ∉ ds → S w → S w') ∧ wpAnyLast P md ops Q S ds fuel (listed.setIfInBounds i true) a' w') a w) : wpAnyLast P md ops Q S ds (fuel + 1) listed a w :=
  ⟨fun h0 => absurd (hr ▸ h0) hne, hr ▸ h⟩
theorem wpAnyLast_done {listed : Array Bool} {a : Act} {w : World} (hr : Region.ready md ops listed = []) (h : Q .normal a w) :
    ∀ fuel, wpAnyLast P md ops Q S ds fuel listed a w
  | 0 => ⟨hr, h⟩
  | _ + 1 => ⟨fun _ => h, by rw [hr]; simp⟩
theorem wp_region_last {id : Nat} {a : Act} {w : World} (hm : P.follows .mixedOrders = true)
    (h : wpAnyLast P .any ops Q S ds ops.size (Array.replicate ops.size false) a { w with drawn := w.drawn + 1 }) : (Code.region id ops true).wp P Q a w :=
  wp_region_any hm (wpAny_of_last _ _ _ _ h)
end
section
variable {P : Program} {ops : Array Oper} {Q : Exit → Act → World → Prop} {md : Region.Mode} {S : World → Prop} {ds : List Nat}
def AllReadyL (P : Program) (md : Region.Mode) (ops : Array Oper) (Q : Exit → Act → World → Prop) (S : World → Prop) (ds : List Nat) (fuel : Nat) (listed : Array Bool) (a : Act) (w : World) (rs : List Nat) : Prop :=
  ∀ i ∈ rs, wpOp P ops Q i (fun a' w' => (i ∉ ds → S w → S w') ∧ wpAnyLast P md ops Q S ds fuel (listed.setIfInBounds i true) a' w') a w
theorem AllReadyL.nil {fuel : Nat} {listed : Array Bool} {a : Act} {w : World} : AllReadyL P md ops Q S ds fuel listed a w [] := fun _ h => by cases h
theorem AllReadyL.cons {fuel : Nat} {listed : Array Bool} {a : Act} {w : World} {i : Nat} {o : Oper} {rs : List Nat} (ho : ops[i]? = some o) (hd : i ∉ ds)
    (h : ∀ K' : Act → World → Prop, Shut (∀ a w, S w → (S w → wpAnyLast P md ops Q S ds fuel (listed.setIfInBounds i true) a w) → K' a w) → if Region.wanted o (yielded ops a.tmps) = true then Oper.wp P o a w K' Q else K' (a.put o.dst undef) w)
    (hs : AllReadyL P md ops Q S ds fuel listed a w rs) : AllReadyL P md ops Q S ds fuel listed a w (i :: rs) := fun j hj => by
  rcases List.mem_cons.1 hj with rfl | hj
  · exact wpOp_step ho (fun K' hK => h K' (fun a w hS hW => hK a w ⟨fun _ _ => hS, hW hS⟩))
  · exact hs j hj
theorem AllReadyL.cons_last {fuel : Nat} {listed : Array Bool} {a : Act} {w : World} {i : Nat} {o : Oper} {rs : List Nat} (ho : ops[i]? = some o) (hd : i ∈ ds)
    (h : ∀ K' : Act → World → Prop, Shut (∀ a w, wpAnyLast P md ops Q S ds fuel (listed.setIfInBounds i true) a w → K' a w) → if Region.wanted o (yielded ops a.tmps) = true then Oper.wp P o a w K' Q else K' (a.put o.dst undef) w)
    (hs : AllReadyL P md ops Q S ds fuel listed a w rs) : AllReadyL P md ops Q S ds fuel listed a w (i :: rs) := fun j hj => by
  rcases List.mem_cons.1 hj with rfl | hj
  · exact wpOp_step ho (fun K' hK => h K' (fun a w hW => hK a w ⟨fun hn => absurd hd hn, hW⟩))
  · exact hs j hj
theorem wpAnyLast_ready {rs : List Nat} {fuel : Nat} {listed : Array Bool} {a : Act} {w : World} (hr : Region.ready md ops listed = rs) (hne : rs ≠ [])
    (h : AllReadyL P md ops Q S ds fuel listed a w rs) : wpAnyLast P md ops Q S ds (fuel + 1) listed a w := wpAnyLast_all hr hne h
theorem start_ {id n : Nat} {a : Act} {w : World} (l : Array Bool) (hm : P.follows .mixedOrders = true) (hn : ops.size = n) (hl : Array.replicate n false = l) (hS : S w.drew)
    (h : S w.drew → wpAnyLast P .any ops Q S ds n l a w.drew) : (Code.region id ops true).wp P Q a w := by
  subst hn
  subst hl
  exact wp_region_last hm (h hS)
def takeB (md : Region.Mode) (ops : Array Oper) (ds : List Nat) (l l' : Array Bool) (i : Nat) : Bool :=
  Region.noSelect ops && Region.free md ops l i && (Region.ready md ops l).contains i && Region.closedB md ops l && Region.lastB md ops l ds i && (l.setIfInBounds i true == l')
theorem take_ {i : Nat} {N : Option Tmp} {oi : Oper} {v : Value} {fuel : Nat} {l : Array Bool} {a : Act} {w : World} (l' : Array Bool) (hi : ops[i]? = some oi) (hN : oi.dst = N) (hc : takeB md ops ds l l' i = true)
    (hQ : ∀ c a w, Q (.panic c) (a.put oi.dst v) w → Q (.panic c) a w) (hy : YieldsIf P ops S oi v a) (hS : S w) {a' : Act} (ha : a.put N v = a')
    (h : wpAnyLast P md ops Q S ds fuel l' a' w) : wpAnyLast P md ops Q S ds (fuel + 1) l a w := by
  subst ha
  subst hN
  simp only [takeB, Bool.and_eq_true, beq_iff_eq] at hc
  obtain ⟨⟨⟨⟨⟨h1, h2⟩, h3⟩, h4⟩, h5⟩, h6⟩ := hc
  subst h6
  exact wpAnyLast_take hi h1 h2 h3 h4 h5 hQ hy hS h
def anyB (md : Region.Mode) (ops : Array Oper) (l l' : Array Bool) (i : Nat) : Bool :=
  Region.noSelect ops && Region.free md ops l i && (Region.ready md ops l).contains i && (l.setIfInBounds i true == l')
theorem pure_ {i : Nat} {N : Option Tmp} {oi : Oper} {v : Value} {fuel : Nat} {l : Array Bool} {a : Act} {w : World} (l' : Array Bool) (hi : ops[i]? = some oi) (hN : oi.dst = N) (hc : anyB md ops l l' i = true)
    (hQ : ∀ c a w, Q (.panic c) (a.put oi.dst v) w → Q (.panic c) a w) (hy : Yields P ops oi v a) {a' : Act} (ha : a.put N v = a')
    (h : wpAnyLast P md ops Q S ds fuel l' a' w) : wpAnyLast P md ops Q S ds (fuel + 1) l a w := by
  subst ha
  subst hN
  simp only [anyB, Bool.and_eq_true, beq_iff_eq] at hc
  obtain ⟨⟨⟨h1, h2⟩, h3⟩, h6⟩ := hc
  subst h6
  exact wpAnyLast_any hi (Region.noSelect_spec h1) hQ fuel l a w (Region.free_spec hi h2) (by simpa using h3) hy h
def readyB (md : Region.Mode) (ops : Array Oper) (l l' : Array Bool) (i : Nat) : Bool := (Region.ready md ops l == [i]) && (l.setIfInBounds i true == l')
theorem one_ {i : Nat} {N : Option Tmp} {oi : Oper} {fuel : Nat} {l : Array Bool} {a : Act} {w : World} (l' : Array Bool) (hi : ops[i]? = some oi) (hN : oi.dst = N) (hc : readyB md ops l l' i = true) (hd : i ∉ ds)
    (h : ∀ K : Act → World → Prop, Shut (∀ a' w', S w' → (S w' → wpAnyLast P md ops Q S ds fuel l' a' w') → K a' w') → if Region.wanted oi (yielded ops a.tmps) = true then Oper.wp P oi a w K Q else K (a.put N undef) w) :
    wpAnyLast P md ops Q S ds (fuel + 1) l a w := by
  subst hN
  simp only [readyB, Bool.and_eq_true, beq_iff_eq] at hc
  obtain ⟨h1, h2⟩ := hc
  subst h2
  exact wpAnyLast_ready h1 (by simp) (AllReadyL.cons hi hd (fun K hK => h K hK) AllReadyL.nil)
theorem last_ {i : Nat} {N : Option Tmp} {oi : Oper} {fuel : Nat} {l : Array Bool} {a : Act} {w : World} (l' : Array Bool) (hi : ops[i]? = some oi) (hN : oi.dst = N) (hc : readyB md ops l l' i = true) (hd : i ∈ ds)
    (h : ∀ K : Act → World → Prop, Shut (∀ a' w', wpAnyLast P md ops Q S ds fuel l' a' w' → K a' w') → if Region.wanted oi (yielded ops a.tmps) = true then Oper.wp P oi a w K Q else K (a.put N undef) w) :
    wpAnyLast P md ops Q S ds (fuel + 1) l a w := by
  subst hN
  simp only [readyB, Bool.and_eq_true, beq_iff_eq] at hc
  obtain ⟨h1, h2⟩ := hc
  subst h2
  exact wpAnyLast_ready h1 (by simp) (AllReadyL.cons_last hi hd (fun K hK => h K hK) AllReadyL.nil)
theorem done_ {l : Array Bool} {a : Act} {w : World} {n : Nat} (hr : (Region.ready md ops l == []) = true) (h : Q .normal a w) : wpAnyLast P md ops Q S ds n l a w := wpAnyLast_done (by simpa using hr) h n
theorem norm_ {fuel : Nat} {l : Array Bool} {a a' : Act} {w : World} (ha : a = a') (h : wpAnyLast P md ops Q S ds fuel l a' w) : wpAnyLast P md ops Q S ds fuel l a w := by
  subst ha
  exact h
theorem call_ {oi : Oper} {N : Option Tmp} {a : Act} {w : World} {K : Act → World → Prop} (f : FuncId) (args : Array Value) (hw : Region.wanted oi (yielded ops a.tmps) = true) (hN : oi.dst = N) (hrun : (execOp a.eval oi).run P w = .ok (.enter f args) w)
    (h : Calls P f args w fun e w' => ∃ v, e = .returned v ∧ K (a.put N v) w') : if Region.wanted oi (yielded ops a.tmps) = true then Oper.wp P oi a w K Q else K (a.put N undef) w := by
  rw [if_pos hw]
  subst hN
  unfold Oper.wp
  rw [hrun, Oper.upon_enter]
  refine h.mono fun e w'' hh => ?_
  obtain ⟨v, rfl, hk⟩ := hh
  exact hk
theorem enters_ {f : FuncId} {fn : Func} (hf : P.funcs[f]? = some fn) (hname : (fn.name == "runtime.NumGoroutine") = false) (hb : fn.body.isSome = true) (args : Array Value) (w : World) : (callFunc f args).run P w = .ok (.enter f args) w := by
  have h1 : fn.name ≠ "runtime.NumGoroutine" := by simpa using hname
  obtain ⟨c, hc⟩ := Option.isSome_iff_exists.1 hb
  simp [callFunc, hf, h1, hc]
theorem goes_ {oi : Oper} {N : Option Tmp} {a : Act} {w : World} {K : Act → World → Prop} {f : FuncId} {fn : Func} {as_ : Array Operand} {ts : Array TypeId} (hf : P.funcs[f]? = some fn) (hname : (fn.name == "runtime.NumGoroutine") = false) (hb : fn.body.isSome = true) (args : Array Value)
    (hw : Region.wanted oi (yielded ops a.tmps) = true) (hN : oi.dst = N) (hop : oi.op = .call { callee := .value (.func f), args := as_, argTypes := ts }) (hargs : as_.map a.eval = args)
    (h : Calls P f args w fun e w' => ∃ v, e = .returned v ∧ K (a.put N v) w') : if Region.wanted oi (yielded ops a.tmps) = true then Oper.wp P oi a w K Q else K (a.put N undef) w := by
  refine call_ f args hw hN ?_ h
  have he := enters_ hf hname hb args w
  unfold execOp
  simp [hop, resolve, Deferred.ofValue, invoke, Act.eval, hargs, he]
theorem goesL_ {rest : List Oper} {oi : Oper} {a : Act} {w : World} (N : Option Tmp) (hd : oi.dst = N) (hg : oi.guard = none) {f : FuncId} {fn : Func} {as_ : Array Operand} {ts : Array TypeId} (hf : P.funcs[f]? = some fn) (hname : (fn.name == "runtime.NumGoroutine") = false) (hb : fn.body.isSome = true) (args : Array Value)
    (hop : oi.op = .call { callee := .value (.func f), args := as_, argTypes := ts }) (hargs : as_.map a.eval = args)
    (h : Calls P f args w fun e w' => ∃ v, e = .returned v ∧ wpList P ops Q rest (a.put N v) w') : wpList P ops Q (oi :: rest) a w := by
  refine wpList_plain hg fun K hK => ?_
  have he := enters_ hf hname hb args w
  have hrun : (execOp a.eval oi).run P w = .ok (.enter f args) w := by
    unfold execOp
    simp [hop, resolve, Deferred.ofValue, invoke, Act.eval, hargs, he]
  unfold Oper.wp
  rw [hrun, Oper.upon_enter]
  refine h.mono fun e w'' hh => ?_
  obtain ⟨v, rfl, hk⟩ := hh
  subst hd
  exact hK _ _ hk
theorem skip_ {oi : Oper} {a : Act} {w w1 : World} {K : Act → World → Prop} (hw : Region.wanted oi (yielded ops a.tmps) = true) (hN : oi.dst = none) (hrun : (execOp a.eval oi).run P w = .ok .skip w1)
    (h : K a w1) : if Region.wanted oi (yielded ops a.tmps) = true then Oper.wp P oi a w K Q else K (a.put none undef) w := by
  rw [if_pos hw]
  unfold Oper.wp
  rw [hrun]
  show K (a.put oi.dst undef) w1
  rw [hN]
  exact h
theorem i64_w (n : Int) : IntKind.i64.wrap n = Go.RowKit.wrap64 n := by unfold Go.RowKit.wrap64; exact IntKind.wrap_i64 n
theorem i32_w (n : Int) : IntKind.i32.wrap n = Go.RowKit.wrap32 n := by unfold Go.RowKit.wrap32; exact IntKind.wrap_i32 n
end
end Go.Proofs.YtopaddpclipnjaaW.PrintLast
namespace Go.Proofs.YtopaddpclipnjaaW.PrintWords
open Go.RowKit
namespace Kd
def tag {α : Type} (f : Nat → Nat) (d : Kd α) : Kd (α × Nat) where
  sz := d.sz
  E := d.E
  K := fun w x cs => d.K w x.1 cs
  M := fun w base ok x cs => d.M w base (fun k => ok k ∧ f k = x.2) x.1 cs
  K_len := fun h => d.K_len h
  K_one := fun h => d.K_one h
  K_below := fun hb h => d.K_below hb h
  K_of_M := fun h => d.K_of_M h
  M_mono := fun hok h => d.M_mono (fun k hk => ⟨hok k hk.1, hk.2⟩) h
  M_bound := fun h => d.M_mono (fun _ hk => ⟨⟨hk.1.1, hk.2⟩, hk.1.2⟩) (d.M_bound h)
  M_move := fun hm h => d.M_move (fun k hk => hm k hk.1) h
  M_lower := fun hb h => d.M_lower hb h
def raw (sz : Nat) : Kd (List Value) where
  sz := sz
  E := []
  K := fun _ x cs => cs = x ∧ cs.length = sz ∧ ∀ u ∈ cs, u.oneCell' = true
  M := fun _ _ _ x cs => cs = x ∧ cs.length = sz ∧ ∀ u ∈ cs, u.oneCell' = true
  K_len := fun h => h.2.1
  K_one := fun h => h.2.2
  K_below := fun _ h => h
  K_of_M := fun h => h
  M_mono := fun _ h => h
  M_bound := fun h => h
  M_move := fun _ h => h
  M_lower := fun _ h => h
def S {α : Type} (d : Kd α) (e : Nat) (w : World) (base : Nat) (ok : Nat → Prop) (v : Value) (xs : List α) : Prop := ∃ f, (tag f d).R e w base ok v xs.zipIdx
section
variable {α β : Type} {d : Kd α} {d' : Kd β} {e e' : Nat} {w w1 W : World} {base b : Nat} {ok ok' okv oku : Nat → Prop} {u v : Value} {xs : List α} {ys : List β}
theorem S_nil (d : Kd α) (e : Nat) (w : World) (base : Nat) (ok : Nat → Prop) : S d e w base ok (.slice none 0 0) [] := ⟨fun _ => 0, R_nil _ _ _ _ _⟩
end
section
variable {α β : Type} {d : Kd α} {d' : Kd β} {e e' g : Nat} {w w1 W : World} {base b : Nat} {ok ok' okv oku : Nat → Prop} {u v : Value} {xs : List α} {ys : List β}
end
section
variable {P : Program} {ops : Array Oper} {rest : List Oper} {o : Oper} {a : Act} {Q : Exit → Act → World → Prop} {Kc : Act → World → Prop} {α : Type}
end
def gap {α : Type} (f : Nat → Nat) (d : Kd α) (i : Nat) (c : List Value) : Kd (α × Nat) where
  sz := d.sz
  E := d.E
  K := fun w x cs => (x.2 = i → cs = c ∧ cs.length = d.sz ∧ ∀ u ∈ cs, u.oneCell' = true) ∧ (x.2 ≠ i → d.K w x.1 cs)
  M := fun w base ok x cs => (x.2 = i → cs = c ∧ cs.length = d.sz ∧ ∀ u ∈ cs, u.oneCell' = true) ∧ (x.2 ≠ i → d.M w base (fun k => ok k ∧ f k = x.2) x.1 cs)
  K_len := fun {w x cs} h => by
    by_cases hx : x.2 = i
    · exact (h.1 hx).2.1
    · exact d.K_len (h.2 hx)
  K_one := fun {w x cs} h => by
    by_cases hx : x.2 = i
    · exact (h.1 hx).2.2
    · exact d.K_one (h.2 hx)
  K_below := fun hb h => ⟨h.1, fun hx => d.K_below hb (h.2 hx)⟩
  K_of_M := fun h => ⟨h.1, fun hx => d.K_of_M (h.2 hx)⟩
  M_mono := fun hok h => ⟨h.1, fun hx => d.M_mono (fun k hk => ⟨hok k hk.1, hk.2⟩) (h.2 hx)⟩
  M_bound := fun h => ⟨h.1, fun hx => d.M_mono (fun _ hk => ⟨⟨hk.1.1, hk.2⟩, hk.1.2⟩) (d.M_bound (h.2 hx))⟩
  M_move := fun hm h => ⟨h.1, fun hx => d.M_move (fun k hk => hm k hk.1) (h.2 hx)⟩
  M_lower := fun hb h => ⟨h.1, fun hx => d.M_lower hb (h.2 hx)⟩
def H {α : Type} (d : Kd α) (e : Nat) (w : World) (base : Nat) (ok : Nat → Prop) (v : Value) (xs : List α) (i : Int) (oki : Nat → Prop) (c : List Value) : Prop :=
  (∀ k, oki k → ok k) ∧ ∃ f, (gap f d i.toNat c).R e w base (fun k => ok k ∧ ¬ oki k) v xs.zipIdx
section
variable {α β : Type} {d : Kd α} {e e' g n cap : Nat} {w w1 W : World} {base : Nat} {ok ok' oki okp : Nat → Prop} {u v : Value} {xs : List α} {i : Int} {c : List Value}
end
section
variable {P : Program} {ops : Array Oper} {rest : List Oper} {o : Oper} {a : Act} {Q : Exit → Act → World → Prop} {α : Type}
end
end Kd
end Go.Proofs.YtopaddpclipnjaaW.PrintWords
namespace Go.Proofs.YtopaddpclipnjaaW.PrintWords
open Go.RowKit
namespace Kd
theorem reps_one {α : Type} {R : α → List Value → Prop} {size : Nat} {ps : List α} {cs : List Value} (h : Reps R size ps cs) (hs0 : 0 < size) (hR : ∀ p c, R p c → ∀ u ∈ c, u.oneCell' = true) : ∀ u ∈ cs, u.oneCell' = true := by
  intro u hu
  obtain ⟨q, hq, rfl⟩ := List.mem_iff_getElem.1 hu
  have hql : q / size < ps.length := by
    rw [Nat.div_lt_iff_lt_mul hs0, ← h.1]
    exact hq
  refine hR _ _ (h.2 (q / size) _ (List.getElem?_eq_getElem hql)) _ ?_
  rw [List.mem_iff_getElem?]
  refine ⟨q % size, ?_⟩
  rw [List.getElem?_take, if_pos (Nat.mod_lt _ hs0), List.getElem?_drop, Nat.mul_comm, Nat.div_add_mod, List.getElem?_eq_getElem hq]
def arr {α : Type} (n : Nat) (d : Kd α) (hs : 0 < d.sz) : Kd (List α) where
  sz := n * d.sz
  E := d.E
  K := fun w xs cs => xs.length = n ∧ Reps (d.K w) d.sz xs cs
  M := fun w base ok xs cs => xs.length = n ∧ Reps (d.M w base ok) d.sz xs cs
  K_len := fun h => by rw [← h.1]; exact h.2.1
  K_one := fun h => reps_one h.2 hs (fun _ _ hk => d.K_one hk)
  K_below := fun hb h => ⟨h.1, h.2.imp_ (fun _ _ hk => d.K_below hb hk)⟩
  K_of_M := fun h => ⟨h.1, h.2.imp_ (fun _ _ hk => d.K_of_M hk)⟩
  M_mono := fun hok h => ⟨h.1, h.2.imp_ (fun _ _ hk => d.M_mono hok hk)⟩
  M_bound := fun h => ⟨h.1, h.2.imp_ (fun _ _ hk => d.M_bound hk)⟩
  M_move := fun hm h => ⟨h.1, h.2.imp_ (fun _ _ hk => d.M_move hm hk)⟩
  M_lower := fun hb h => ⟨h.1, h.2.imp_ (fun _ _ hk => d.M_lower hb hk)⟩
section
variable {α : Type} {n : Nat} {d : Kd α} {hs : 0 < d.sz} {w : World} {base : Nat} {ok : Nat → Prop} {xs : List α} {cs : List Value}
end
section
variable {α : Type} {n : Nat} {enc : α → Value} {h1 : ∀ x, (enc x).oneCell' = true} {hs : 0 < (scalar enc h1).sz} {w : World} {base : Nat} {ok : Nat → Prop} {xs : List α} {cs : List Value}
end
end Kd
end Go.Proofs.YtopaddpclipnjaaW.PrintWords
namespace Go.Proofs.YtopaddpclipnjaaW.PrintWords
open Go.RowKit
namespace Kd
structure Heap {α : Type} (d : Kd α) : Prop where
  K : ∀ {w w1 : World} {x : α} {cs : List Value}, (∀ k, k < w.heap.size → w1.heap[k]? = w.heap[k]?) → d.K w x cs → d.K w1 x cs
theorem cell_heap {w w1 : World} (hb : ∀ k, k < w.heap.size → w1.heap[k]? = w.heap[k]?) {a : Addr} {v : Value} (h : w.cell? a = some v) : w1.cell? a = some v := by
  have := hb a.block (World.block_lt_of_cell? w a h)
  simpa [World.cell?, this] using h
theorem Heap.C {α : Type} {d : Kd α} (hd : Heap d) {w w1 : World} {A : Option Addr} {n : Nat} {xs : List α} (hb : ∀ k, k < w.heap.size → w1.heap[k]? = w.heap[k]?) (h : d.C w A n xs) : d.C w1 A n xs :=
  ⟨h.1, h.2.1, fun hn => by
    obtain ⟨ad, e, hc⟩ := h.2.2 hn
    refine ⟨ad, e, fun j p hj => ?_⟩
    obtain ⟨c, hs, hr, hcell⟩ := hc j p hj
    exact ⟨c, hs, hd.K hb hr, fun i u hu => cell_heap hb (hcell i u hu)⟩⟩
section
variable {α : Type} {d : Kd α} {e base g n c : Nat} {ok : Nat → Prop} {w w0 W : World} {A : Option Addr} {xs : List α}
end
end Kd
end Go.Proofs.YtopaddpclipnjaaW.PrintWords
namespace Go.Proofs.YtopaddpclipnjaaW.PrintWords
open Go.RowKit
def Kept (w W : World) (S : Nat → Prop) : Prop := w.heap.size ≤ W.heap.size ∧ ∀ i, i < w.heap.size → ¬ S i → W.heap[i]? = w.heap[i]?
section
variable {w W W2 : World} {S S2 S' : Nat → Prop}
theorem Kept.refl (w : World) (S : Nat → Prop) : Kept w w S := ⟨Nat.le_refl _, fun _ _ _ => rfl⟩
theorem Kept.of_below (h : Below w.heap.size w W) (S : Nat → Prop) : Kept w W S := ⟨h.size, fun i hi _ => h.block i hi⟩
theorem Kept.mono (h : Kept w W S) (hs : ∀ k, S k → S' k) : Kept w W S' := ⟨h.1, fun i hi hn => h.2 i hi (fun hk => hn (hs i hk))⟩
theorem Kept.then_ (h : Kept w W S) (k : Kept W W2 S2) (hs : ∀ k, S2 k → S k ∨ w.heap.size ≤ k) : Kept w W2 S :=
  ⟨Nat.le_trans h.1 k.1, fun i hi hn => (k.2 i (Nat.lt_of_lt_of_le hi h.1) (fun h2 => (hs i h2).elim hn (fun h3 => by omega))).trans (h.2 i hi hn)⟩
theorem Kept.below (h : Kept w W S) (hb : Below W.heap.size W W2) : Kept w W2 S := h.then_ (Kept.of_below hb (fun _ => False)) (fun _ hk => hk.elim)
theorem Kept.alloc (h : Kept w W S) (o : Obj) : Kept w (W.alloc o) S := h.below (below_alloc (Below.refl _ _) o)
theorem Kept.drew (h : Kept w W S) : Kept w W.drew S := h
theorem Kept.drewN (h : Kept w W S) (m : Nat) : Kept w (W.drewN m) S := h
theorem Kept.setCell (h : Kept w W S) {p : Addr} (hp : S p.block ∨ w.heap.size ≤ p.block) (u : Value) : Kept w (W.setCell p u) S :=
  h.then_ (S2 := fun k => k = p.block) ⟨by simp [World.setCell], fun i _ hn => Below.heap_setCell W p u i hn⟩ (fun k hk => by rw [hk]; exact hp)
end
namespace Kd
section
variable {α : Type} {d : Kd α} {e base n c : Nat} {ok oki S S2 : Nat → Prop} {w w0 W W1 W2 : World} {v : Value} {A : Option Addr} {xs : List α} {i : Int} {cs : List Value}
end
end Kd
end Go.Proofs.YtopaddpclipnjaaW.PrintWords
namespace Go.Proofs.YtopaddpclipnjaaW.PrintWords
open Go.RowKit
def Foot (P : World → Prop) (W : World) (ok : Nat → Prop) : Prop := ∀ W' : World, (∀ k, ok k → k < W.heap.size → W'.heap[k]? = W.heap[k]?) → P W'
theorem heap_lt {W W1 : World} {k : Nat} (h : W1.heap[k]? = W.heap[k]?) (hlt : k < W.heap.size) : k < W1.heap.size := by
  rw [Array.getElem?_eq_getElem hlt] at h
  exact (Array.getElem?_eq_some_iff.1 h).1
namespace Foot
variable {P Q : World → Prop} {W W1 : World} {ok ok' : Nat → Prop}
theorem now (h : Foot P W ok) : P W := h W (fun _ _ _ => rfl)
theorem mono (h : Foot P W ok) (hok : ∀ k, ok k → ok' k) : Foot P W ok' := fun W' hW => h W' (fun k hk hlt => hW k (hok k hk) hlt)
theorem bound (h : Foot P W ok) : Foot P W (fun k => ok k ∧ k < W.heap.size) := fun W' hW => h W' (fun k hk hlt => hW k ⟨hk, hlt⟩ hlt)
theorem step (h : Foot P W ok) (hm : ∀ k, ok k → k < W.heap.size → W1.heap[k]? = W.heap[k]?) : Foot P W1 ok := fun W' hW => h W' (fun k hk hlt => (hW k hk (heap_lt (hm k hk hlt) hlt)).trans (hm k hk hlt))
theorem imp (h : Foot P W ok) (hi : ∀ W', P W' → Q W') : Foot Q W ok := fun W' hW => hi W' (h W' hW)
theorem old (h : Foot P W ok) (hb : Below W.heap.size W W1) : Foot P W1 (fun k => ok k ∧ k < W.heap.size) := (h.bound).step (fun k _ hlt => hb.block k hlt)
end Foot
namespace Kd
def F {α : Type} (d : Kd α) (W : World) (ok : Nat → Prop) (A : Option Addr) (n : Nat) (xs : List α) : Prop := Foot (fun W => d.C W A n xs) W ok
def FK {α : Type} (d : Kd α) (W : World) (ok : Nat → Prop) (x : α) (c : List Value) : Prop := Foot (fun W => d.K W x c) W ok
section
variable {α β : Type} {d : Kd α} {e base n n' cc g N : Nat} {ok ok' okp S : Nat → Prop} {w w0 w1 W W1 : World} {A A' : Option Addr} {u v v1 : Value} {xs : List α} {xs' : List β} {d' : Kd β} {x : α} {c : List Value}
theorem F_now (h : F d W ok A n xs) : d.C W A n xs := Foot.now h
theorem F_mono (h : F d W ok A n xs) (hok : ∀ k, ok k → ok' k) : F d W ok' A n xs := Foot.mono h hok
theorem F_bound (h : F d W ok A n xs) : F d W (fun k => ok k ∧ k < W.heap.size) A n xs := Foot.bound h
theorem F_step (h : F d W ok A n xs) (hm : ∀ k, ok k → k < W.heap.size → W1.heap[k]? = W.heap[k]?) : F d W1 ok A n xs := Foot.step h hm
theorem F_below (h : F d W ok A n xs) (hb : Below W.heap.size W W1) : F d W1 ok A n xs := F_step h (fun k _ hlt => hb.block k hlt)
theorem F_alloc (h : F d W ok A n xs) (o : Obj) : F d (W.alloc o) ok A n xs := F_below h (below_alloc (Below.refl _ _) o)
theorem F_drew (h : F d W ok A n xs) : F d W.drew ok A n xs := F_below h (below_drew (Below.refl _ _))
theorem F_drewN (h : F d W ok A n xs) (m : Nat) : F d (W.drewN m) ok A n xs := F_below h (pw_below_drewN (Below.refl _ _) m)
theorem F_far (h : F d W ok A n xs) {p : Addr} (hok : ∀ k, ok k → k ≠ p.block) (u : Value) : F d (W.setCell p u) ok A n xs := F_step h (fun k hk _ => Below.heap_setCell W p u k (hok k hk))
theorem F_nil (d : Kd α) (W : World) (ok : Nat → Prop) : F d W ok none ([] : List α).length [] := fun W' _ => C_nil d W'
theorem F_elder' (h : F d W ok A n xs) (hbase : ∀ k, v.ownBlock = some k → W.heap.size ≤ k) (hb : Below W.heap.size W W1) : F d W1 (fun k => ok k ∧ some k ≠ v.ownBlock) A n xs :=
  F_mono (Foot.old h hb) (fun k hk => ⟨hk.1, fun he => by have := hbase k he.symm; have := hk.2; omega⟩)
theorem F_elderB (h : F d W ok A n xs) (a : Nat) (ha : W.heap.size ≤ a) : F d W (fun k => ok k ∧ k ≠ a) A n xs := F_mono (F_bound h) (fun k hk => ⟨hk.1, by have := hk.2; omega⟩)
theorem F_after (h : F d W (fun k => ok k ∧ some k ≠ v.ownBlock) A n xs) (hg : W.grownBy W1 v.ownBlock) (hat : v1.ownBlock = v.ownBlock ∨ ∃ b, v1.ownBlock = some b ∧ W.heap.size ≤ b) : F d W1 (fun k => ok k ∧ some k ≠ v1.ownBlock) A n xs := by
  refine F_mono (Foot.step (F_bound h) (fun k hk hlt => hg.block k hlt hk.1.2)) (fun k hk => ⟨hk.1.1, ?_⟩)
  rcases hat with hat | ⟨b, hb, hle⟩
  · rw [hat]; exact hk.1.2
  · rw [hb]
    intro he
    injection he with he
    have := hk.2
    omega
theorem FK_of_M (h : d.M W base ok x c) : FK d W ok x c := fun _ hW => d.K_of_M (M_step h hW)
end
end Kd
end Go.Proofs.YtopaddpclipnjaaW.PrintWords
namespace Go.Proofs.YtopaddpclipnjaaW.PrintWords
open Go.RowKit
namespace Kd
def chunks (sz : Nat) (n : Nat) (inner : List Value) : List (List Value) := (List.range n).map fun j => (inner.drop (j * sz)).take sz
theorem chunks_length (sz n : Nat) (inner : List Value) : (chunks sz n inner).length = n := by simp [chunks]
theorem chunks_at {sz n : Nat} {inner : List Value} {j : Nat} (hj : j < n) : (chunks sz n inner)[j]? = some ((inner.drop (j * sz)).take sz) := by simp [chunks, hj]
theorem chunks_get {sz n : Nat} {inner : List Value} {j : Nat} {c : List Value} (h : (chunks sz n inner)[j]? = some c) : c = (inner.drop (j * sz)).take sz := by
  have hj : j < n := by have := (List.getElem?_eq_some_iff.1 h).1; rwa [chunks_length] at this
  rw [chunks_at hj] at h
  injection h with h
  exact h.symm
theorem reps_raw {α : Type} {Rr : α → List Value → Prop} {sz : Nat} {xs : List α} {inner : List Value} (h : Reps Rr sz xs inner) (hR : ∀ x c, Rr x c → c.length = sz ∧ ∀ u ∈ c, u.oneCell' = true) : Reps (fun x cs => cs = x ∧ cs.length = sz ∧ ∀ u ∈ cs, u.oneCell' = true) sz (chunks sz xs.length inner) inner := by
  refine ⟨by rw [chunks_length]; exact h.1, fun j p hj => ?_⟩
  have hjl : j < xs.length := by have := (List.getElem?_eq_some_iff.1 hj).1; rwa [chunks_length] at this
  have hp := chunks_get hj
  exact ⟨hp.symm, hR _ _ (h.2 j _ (List.getElem?_eq_getElem hjl))⟩
section
variable {α : Type} {d : Kd α} {e base n cc g : Nat} {ok ok' okp S : Nat → Prop} {w w1 W W1 : World} {A : Option Addr} {u v v1 : Value} {xs : List α} {x : α} {c : List Value}
def N {α : Type} (d : Kd α) (e : Nat) (w : World) (base : Nat) (ok : Nat → Prop) (v : Value) (xs : List α) : Prop :=
  (∀ k, v.ownBlock = some k → ok k) ∧ ∃ rows : List (List Value), rows.length = xs.length ∧ (raw d.sz).R e w base (fun k => some k = v.ownBlock) v rows ∧ ∀ (j : Nat) (x : α) (c : List Value), xs[j]? = some x → rows[j]? = some c → FK d w (fun k => ok k ∧ some k ≠ v.ownBlock) x c
theorem R_N (h : d.R e w base ok v xs) : N d e w base ok v xs := by
  obtain ⟨h0, inner, ho, hr⟩ := h
  refine ⟨h0, chunks d.sz xs.length inner, chunks_length _ _ _, ⟨fun k hk => hk.symm, inner, by rw [chunks_length]; exact ho, reps_raw hr (fun x c hp => ⟨d.K_len (d.K_of_M hp), d.K_one (d.K_of_M hp)⟩)⟩, fun j x c hx hc => ?_⟩
  rw [chunks_get hc]
  exact FK_of_M (hr.2 j x hx)
theorem N_nil (d : Kd α) (e : Nat) (w : World) (base : Nat) (ok : Nat → Prop) : N d e w base ok (.slice none 0 0) [] := R_N (R_nil _ _ _ _ _)
end
end Kd
end Go.Proofs.YtopaddpclipnjaaW.PrintWords
namespace Go.Proofs.YtopaddpclipnjaaW.PrintMore
open Go.RowKit Go.Proofs.YtopaddpclipnjaaW.PrintWords
namespace Kd
open Go.Proofs.YtopaddpclipnjaaW.PrintWords.Kd
end Kd
namespace Kd
open Go.Proofs.YtopaddpclipnjaaW.PrintWords.Kd
section
variable {α : Type} {d : Kd α} {e base g N : Nat} {ok : Nat → Prop} {W w1 : World} {u v : Value} {xs : List α}
end
end Kd
theorem max2_int (k k' : IntKind) (x y : Int) : Builtin.max2 (.int k x) (.int k' y) = pure (.int k (if x < y then y else x)) := by simp only [Builtin.max2, gt_iff_lt]
theorem min2_int (k k' : IntKind) (x y : Int) : Builtin.min2 (.int k x) (.int k' y) = pure (.int k (if y < x then y else x)) := by simp only [Builtin.min2]
theorem max_two (ats : Array TypeId) (ty : TypeId) (a b : Value) : Builtin.max_ ats ty #[a, b] = (Builtin.max2 a b >>= fun s => pure s) := by simp only [Builtin.max_, List.foldlM_cons, List.foldlM_nil]
theorem min_two (ats : Array TypeId) (ty : TypeId) (a b : Value) : Builtin.min_ ats ty #[a, b] = (Builtin.min2 a b >>= fun s => pure s) := by simp only [Builtin.min_, List.foldlM_cons, List.foldlM_nil]
theorem max_three (ats : Array TypeId) (ty : TypeId) (a b c : Value) : Builtin.max_ ats ty #[a, b, c] = (Builtin.max2 a b >>= fun s => Builtin.max2 s c >>= fun s => pure s) := by simp only [Builtin.max_, List.foldlM_cons, List.foldlM_nil]
theorem min_three (ats : Array TypeId) (ty : TypeId) (a b c : Value) : Builtin.min_ ats ty #[a, b, c] = (Builtin.min2 a b >>= fun s => Builtin.min2 s c >>= fun s => pure s) := by simp only [Builtin.min_, List.foldlM_cons, List.foldlM_nil]
theorem max_four (ats : Array TypeId) (ty : TypeId) (a b c d : Value) : Builtin.max_ ats ty #[a, b, c, d] = (Builtin.max2 a b >>= fun s => Builtin.max2 s c >>= fun s => Builtin.max2 s d >>= fun s => pure s) := by simp only [Builtin.max_, List.foldlM_cons, List.foldlM_nil]
theorem min_four (ats : Array TypeId) (ty : TypeId) (a b c d : Value) : Builtin.min_ ats ty #[a, b, c, d] = (Builtin.min2 a b >>= fun s => Builtin.min2 s c >>= fun s => Builtin.min2 s d >>= fun s => pure s) := by simp only [Builtin.min_, List.foldlM_cons, List.foldlM_nil]
end Go.Proofs.YtopaddpclipnjaaW.PrintMore
namespace Go.Proofs.YtopaddpclipnjaaW.PrintWords
open Go.RowKit
section
variable {P : Program} {ops : Array Oper} {rest : List Oper} {o : Oper} {a : Act} {Q : Exit → Act → World → Prop} {W : World}
theorem gate_callee {f : FuncId} {as_ : Array Operand} {ts : Array TypeId} (_ho : o.op = .call { callee := .value (.func f), args := as_, argTypes := ts }) (h : wpList P ops Q (o :: rest) a W) : wpList P ops Q (o :: rest) a W := h
theorem gate_builtin {b : Builtin} {xs : Array Operand} {ts : Array TypeId} (_ho : o.op = .call { callee := .builtin b, args := xs, argTypes := ts }) (h : wpList P ops Q (o :: rest) a W) : wpList P ops Q (o :: rest) a W := h
end
def mx (a b : Int) : Int := if a < b then b else a
def mn (a b : Int) : Int := if b < a then b else a
namespace Kd
section
variable {α : Type} {d : Kd α} {e base : Nat} {ok : Nat → Prop} {W w1 : World} {v : Value} {xs : List α}
end
section
variable {α : Type} {d : Kd α} {e base g n cap : Nat} {ok oki okp : Nat → Prop} {W : World} {xs : List α} {i : Int} {c : List Value}
end
section
variable {α : Type} {d : Kd α} {e base b b' g N : Nat} {ok ok1 : Nat → Prop} {W W2 w1 : World} {u v : Value} {xs ys : List α} {S : Nat → Prop}
end
end Kd
end Go.Proofs.YtopaddpclipnjaaW.PrintWords
namespace Go.Proofs.YtopaddpclipnjaaW.PrintWords
open Go.RowKit
namespace Kd
def V {α : Type} (d : Kd α) (_e : Nat) (W : World) (_base : Nat) (ok : Nat → Prop) (v : Value) (xs : List α) : Prop := ∃ A c, v = .slice A xs.length c ∧ xs.length ≤ c ∧ F d W ok A xs.length xs
section
variable {α β : Type} {d : Kd α} {e base base' n m c g N' lo hi : Nat} {ok ok' S : Nat → Prop} {w W w1 : World} {A : Option Addr} {ad : Addr} {u v v1 : Value} {xs : List α}
theorem V_map (h : V d e W base ok v xs) (hF : ∀ A, F d W ok A xs.length xs → F d w1 ok' A xs.length xs) : V d e w1 base' ok' v xs := by
  obtain ⟨A, c, hv, hl, hf⟩ := h
  exact ⟨A, c, hv, hl, hF A hf⟩
theorem V_slice (h : V d e W base ok v xs) : ∃ A c, v = .slice A xs.length c := by
  obtain ⟨A, c, hv, _⟩ := h
  exact ⟨A, c, hv⟩
theorem V_at (h : V d e W base ok (.slice A n c) xs) : n = xs.length ∧ n ≤ c ∧ F d W ok A xs.length xs := by
  obtain ⟨A', c', hv, hl, hf⟩ := h
  injection hv with ha hn hc
  subst ha; subst hc
  exact ⟨hn, by rw [hn]; exact hl, hf⟩
theorem V_reads' (h : V d e W base ok (.slice A n c) xs) : n = xs.length ∧ n ≤ c ∧ d.C W A xs.length xs := ⟨(V_at h).1, (V_at h).2.1, F_now (V_at h).2.2⟩
theorem V_nil (d : Kd α) (e : Nat) (W : World) (base : Nat) (ok : Nat → Prop) : V d e W base ok (.slice none 0 0) [] := ⟨none, 0, rfl, Nat.le_refl _, F_nil d W ok⟩
theorem V_mono (h : V d e W base ok v xs) (hok : ∀ k, ok k → ok' k) : V d e W base ok' v xs := V_map h (fun _ hf => F_mono hf hok)
theorem V_lower (h : V d e W base ok v xs) (_ : base' ≤ base) : V d e W base' ok v xs := h
theorem V_below (h : V d e W base ok v xs) (hb : Below W.heap.size W w1) : V d e w1 base ok v xs := V_map h (fun _ hf => F_below hf hb)
theorem V_alloc (h : V d e W base ok v xs) (o : Obj) : V d e (W.alloc o) base ok v xs := V_map h (fun _ hf => F_alloc hf o)
theorem V_drew (h : V d e W base ok v xs) : V d e W.drew base ok v xs := V_map h (fun _ hf => F_drew hf)
theorem V_drewN (h : V d e W base ok v xs) (m : Nat) : V d e (W.drewN m) base ok v xs := V_map h (fun _ hf => F_drewN hf m)
theorem V_far (h : V d e W base ok v xs) {p : Addr} (hok : ∀ k, ok k → k ≠ p.block) (u : Value) : V d e (W.setCell p u) base ok v xs := V_map h (fun _ hf => F_far hf hok u)
theorem V_after (h : V d e W base (fun k => ok k ∧ some k ≠ u.ownBlock) v xs) (hg : W.grownBy w1 u.ownBlock) (hat : v1.ownBlock = u.ownBlock ∨ ∃ b, v1.ownBlock = some b ∧ W.heap.size ≤ b) : V d e w1 base (fun k => ok k ∧ some k ≠ v1.ownBlock) v xs := V_map h (fun _ hf => F_after hf hg hat)
theorem V_afterv (h : V d e W base (fun k => ok k ∧ some k ≠ v.ownBlock) u xs) (hg : W.grownBy w1 v.ownBlock) (hat : v1.ownBlock = v.ownBlock ∨ ∃ b, v1.ownBlock = some b ∧ W.heap.size ≤ b) : V d e w1 base (fun k => ok k ∧ some k ≠ v1.ownBlock) u xs := V_after h hg hat
theorem V_elder' (h : V d e W base ok v xs) (hbase : ∀ k, u.ownBlock = some k → W.heap.size ≤ k) (hb : Below W.heap.size W w1) : V d e w1 base (fun k => ok k ∧ some k ≠ u.ownBlock) v xs := V_map h (fun _ hf => F_elder' hf hbase hb)
theorem V_elderB (h : V d e W base ok v xs) (a : Nat) (ha : W.heap.size ≤ a) : V d e W base (fun k => ok k ∧ k ≠ a) v xs := V_map h (fun _ hf => F_elderB hf a ha)
end
end Kd
end Go.Proofs.YtopaddpclipnjaaW.PrintWords
namespace Go.Proofs.YtopaddpclipnjaaQ
open Go.RowKit Go.Proofs.YtopaddpclipnjaaW.PrintWords Go.Proofs.YtopaddpclipnjaaW.PrintLast Go.Proofs.YtopaddpclipnjaaW.PrintMore
theorem mR {p q : Prop} (h : p) (k : p → q := by intro h; (with_reducible repeat (first | apply Kd.R_alloc | apply Kd.R_drewN | apply Kd.R_drew)); exact h) : q := k h
theorem mK {p q : Prop} (h : p) (k : p → q := by intro h; (with_reducible repeat (first | refine blk_drewN ?_ _ | refine blk_drew ?_ | refine blk_alloc ?_ _)); exact h) : q := k h
theorem mB {p : Prop} (h : p := by repeat (first | (with_reducible first | exact HB.out | apply below_alloc | apply pw_below_drewN | apply below_drew1) | exact HB.out)) : p := h
theorem rF {α : Type} {d : Kd α} {e : Nat} {w : World} {base : Nat} {P : Nat → Prop} {v : Value} {xs : List α} {g : Nat} (j : Nat) {u : Value} (h : d.R e w base (fun k => P k ∧ k ≠ g) v xs) : d.R e (w.setCell ⟨g, j, none⟩ u) base (fun k => P k ∧ k ≠ g) v xs := Kd.R_far (p := ⟨g, j, none⟩) h (fun _ hk => hk.2) u
theorem pK {w : World} {g : Nat} {t : TypeId} {l : List Value} (j : Nat) {u : Value} (h : w.heap[g]? = some (.cells l.toArray t (0, 0))) : (w.setCell ⟨g, j, none⟩ u).heap[g]? = some (.cells (l.set j u).toArray t (0, 0)) := blk_put h j u (by simp)
theorem aA {p : Prop} (h : p) : Aside0 p := ⟨h⟩
end Go.Proofs.YtopaddpclipnjaaQ
namespace Go.Proofs.YtopaddpclipnjaaQ
open Go.RowKit Go.Proofs.YtopaddpclipnjaaW.PrintWords Go.Proofs.YtopaddpclipnjaaW.PrintLast Go.Proofs.YtopaddpclipnjaaW.PrintMore
def bA (n m : Nat) : Array Bool := ((List.range n).map fun i => m.testBit i).toArray
theorem bB {w w' w2 : World} {g : Nat} {o : Obj} (h : w.heap[g]? = some o) (hb : Below w'.heap.size w' w2) (k : w.heap[g]? = some o → w'.heap[g]? = some o := by intro h; (with_reducible repeat (first | refine blk_drewN ?_ _ | refine blk_drew ?_ | refine blk_alloc ?_ _)); exact h) : w2.heap[g]? = some o := blk_below (k h) hb
theorem bZ {w W : World} {g : Nat} (hg : g = W.heap.size) (h : Below w.heap.size w W) : w.heap.size ≤ g := by rw [hg]; exact below_size h
theorem bL {w W : World} {g g' : Nat} {o : Obj} (hg : g' = W.heap.size) (h : w.heap[g]? = some o) (k : w.heap[g]? = some o → W.heap[g]? = some o := by intro h; (with_reducible repeat (first | refine blk_drewN ?_ _ | refine blk_drew ?_ | refine blk_alloc ?_ _)); exact h) : g ≠ g' := by rw [hg]; exact Nat.ne_of_lt (blk_lt (k h))
theorem bG {w W : World} {g g' : Nat} {o : Obj} (hg : g' = W.heap.size) (h : w.heap[g]? = some o) (k : w.heap[g]? = some o → W.heap[g]? = some o := by intro h; (with_reducible repeat (first | refine blk_drewN ?_ _ | refine blk_drew ?_ | refine blk_alloc ?_ _)); exact h) : g' ≠ g := by rw [hg]; exact Nat.ne_of_gt (blk_lt (k h))
theorem mC {p q : Prop} (h : p) (k : p → q := by intro h; repeat (first | exact h | (with_reducible refine Kd.C_alloc ?_ _) | (with_reducible refine Kd.C_drewN ?_ _) | (with_reducible refine Kd.C_drew ?_))) : q := k h
theorem mS {p : Prop} (h : p := by ((try simp only [List.map_toArray, List.map_cons, List.map_nil]); first | done | rfl | (simp only [List.length_drop, List.length_take]; rfl))) : p := h
theorem mP {p : Prop} (h : p := by ((simp only [Act.put, List.setIfInBounds_toArray, List.set_cons_zero, List.set_cons_succ, i64_w, i32_w]); rfl)) : p := h
theorem mD1 {p1 q : Prop} (h1 : p1) (k : p1 → q := by intro h1; repeat (first | (with_reducible first | exact HB.out | apply below_alloc | apply pw_below_drewN | apply below_drew1 | refine below_set ?_ h1) | exact HB.out)) : q := k h1
theorem mD2 {p1 p2 q : Prop} (h1 : p1) (h2 : p2) (k : p1 → p2 → q := by intro h1 h2; repeat (first | (with_reducible first | exact HB.out | apply below_alloc | apply pw_below_drewN | apply below_drew1 | refine below_set ?_ h1 | refine below_set ?_ h2) | exact HB.out)) : q := k h1 h2
theorem mD3 {p1 p2 p3 q : Prop} (h1 : p1) (h2 : p2) (h3 : p3) (k : p1 → p2 → p3 → q := by intro h1 h2 h3; repeat (first | (with_reducible first | exact HB.out | apply below_alloc | apply pw_below_drewN | apply below_drew1 | refine below_set ?_ h1 | refine below_set ?_ h2 | refine below_set ?_ h3) | exact HB.out)) : q := k h1 h2 h3
theorem bC5 {w : World} {g : Nat} {t : TypeId} {x0 x1 x2 x3 x4 : Value} (h : w.heap[g]? = some (.cells #[x0, x1, x2, x3, x4] t (0, 0))) : w.cell? ⟨g, 0, none⟩ = some x0 ∧ w.cell? ⟨g, 1, none⟩ = some x1 ∧ w.cell? ⟨g, 2, none⟩ = some x2 ∧ w.cell? ⟨g, 3, none⟩ = some x3 ∧ w.cell? ⟨g, 4, none⟩ = some x4 := ⟨(blk_cell h 0).trans rfl, (blk_cell h 1).trans rfl, (blk_cell h 2).trans rfl, (blk_cell h 3).trans rfl, (blk_cell h 4).trans rfl⟩
theorem bF5 {w : World} {g : Nat} {t : TypeId} {cs : Array Value} (h : w.heap[g]? = some (.cells cs t (0, 0))) : w.frozen? ⟨g, 0, none⟩ = false ∧ w.frozen? ⟨g, 1, none⟩ = false ∧ w.frozen? ⟨g, 2, none⟩ = false ∧ w.frozen? ⟨g, 3, none⟩ = false ∧ w.frozen? ⟨g, 4, none⟩ = false := ⟨blk_frozen h 0, blk_frozen h 1, blk_frozen h 2, blk_frozen h 3, blk_frozen h 4⟩
end Go.Proofs.YtopaddpclipnjaaQ
namespace Go.Proofs.YtopaddpclipnjaaW.PrintLast
open Go.Proofs.YtopaddpclipnjaaW.PrintWords (Aside0)
def needsOf (md : Region.Mode) (o : Oper) : List Nat := (o.after.toList.filter (fun e => Region.binds md e)).map (fun e => e.on)
def clashOf (md : Region.Mode) (ops : Array Oper) (i : Nat) (oi : Oper) : List Nat := (List.range ops.size).filter fun j => !(j == i) && match ops[j]? with
  | some oj => !(oj.after.any (fun e => Region.binds md e && e.on == i) || oi.apart ops oj)
  | none => false
def rtab (md : Region.Mode) (ops : Array Oper) : Bool × List (List Nat × List Nat) := (Region.noSelect ops, (List.range ops.size).map fun i => match ops[i]? with
  | some o => (needsOf md o, clashOf md ops i o)
  | none => ([], []))
def readyAt (T : List (List Nat × List Nat)) (l : List Bool) (i : Nat) : Bool := !l.getD i true && match T[i]? with
  | some r => r.1.all (fun j => l.getD j false)
  | none => false
def readyT (T : List (List Nat × List Nat)) (l : List Bool) : List Nat := (List.range T.length).filter (readyAt T l)
def freeT (T : List (List Nat × List Nat)) (l : List Bool) (i : Nat) : Bool := match T[i]? with
  | some r => r.2.all (fun j => l.getD j true)
  | none => false
def closedT (T : List (List Nat × List Nat)) (l : List Bool) : Bool := (List.range T.length).all fun j => !l.getD j false || match T[j]? with
  | some r => r.1.all (fun k => l.getD k false)
  | none => true
def reachT (T : List (List Nat × List Nat)) (i : Nat) : Nat → Nat → Bool
  | 0, _ => false
  | fuel + 1, d => match T[d]? with
    | some r => r.1.any fun j => j == i || reachT T i fuel j
    | none => false
def lastT (T : List (List Nat × List Nat)) (l : List Bool) (ds : List Nat) (i : Nat) : Bool := ds.all fun d => l.getD d true || reachT T i T.length d
section
variable {md : Region.Mode} {ops : Array Oper} {T : Bool × List (List Nat × List Nat)} {l l' li lj lk : Array Bool} {ds : List Nat} {i j k : Nat}
theorem gd (l : Array Bool) (j : Nat) (b : Bool) : l.getD j b = l.toList.getD j b := by simp [Array.getD_eq_getD_getElem?, List.getD_eq_getElem?_getD]
theorem needs_all (o : Oper) (p : Nat → Bool) : o.after.all (fun e => !Region.binds md e || p e.on) = (needsOf md o).all p := by
  unfold needsOf
  rw [← Array.all_toList]
  induction o.after.toList with
  | nil => rfl
  | cons e r ih =>
    rw [List.all_cons, ih, List.filter_cons]
    cases h : Region.binds md e <;> simp
theorem needs_any (o : Oper) (p : Nat → Bool) : o.after.any (fun e => Region.binds md e && p e.on) = (needsOf md o).any p := by
  unfold needsOf
  rw [← Array.any_toList]
  induction o.after.toList with
  | nil => rfl
  | cons e r ih =>
    rw [List.any_cons, ih, List.filter_cons]
    cases h : Region.binds md e <;> simp
theorem rtab_length : (rtab md ops).2.length = ops.size := by simp [rtab]
theorem rtab_some {o : Oper} (h : ops[i]? = some o) : (rtab md ops).2[i]? = some (needsOf md o, clashOf md ops i o) := by
  have hi := (Array.getElem?_eq_some_iff.1 h).1
  unfold rtab
  rw [List.getElem?_map, List.getElem?_range hi, Option.map_some, h]
theorem rtab_none (h : ops[i]? = none) : (rtab md ops).2[i]? = none := by
  have hi : ops.size ≤ i := Array.getElem?_eq_none_iff.1 h
  exact List.getElem?_eq_none (by rw [rtab_length]; exact hi)
theorem readyAt_eq : readyAt (rtab md ops).2 l.toList i = (!l.getD i true && ((ops[i]?).map (·.after.all fun e => !Region.binds md e || l.getD e.on false)).getD false) := by
  unfold readyAt
  rw [gd]
  cases h : ops[i]? with
  | none => rw [rtab_none h]; rfl
  | some o =>
    rw [rtab_some h]
    simp only [Option.map_some, Option.getD_some]
    rw [← needs_all]
    simp only [gd]
theorem ready_eq : Region.ready md ops l = readyT (rtab md ops).2 l.toList := by
  unfold Region.ready readyT
  rw [rtab_length]
  refine List.filter_congr (fun i _ => ?_)
  rw [readyAt_eq]
theorem free_eq : Region.free md ops l i = freeT (rtab md ops).2 l.toList i := by
  unfold Region.free freeT
  cases h : ops[i]? with
  | none => rw [rtab_none h]
  | some oi =>
    rw [rtab_some h]
    simp only [clashOf]
    rw [List.all_filter]
    congr 1
    funext j
    rw [gd]
    cases hj : ops[j]? with
    | none => cases (j == i) <;> cases (l.toList.getD j true) <;> simp
    | some oj =>
      cases (j == i) <;> cases (l.toList.getD j true) <;> cases (oj.after.any (fun e => Region.binds md e && e.on == i) || oi.apart ops oj) <;> simp_all
theorem closed_eq : Region.closedB md ops l = closedT (rtab md ops).2 l.toList := by
  unfold Region.closedB closedT
  rw [rtab_length]
  congr 1
  funext j
  rw [gd]
  cases h : ops[j]? with
  | none => rw [rtab_none h]
  | some o =>
    rw [rtab_some h]
    simp only
    rw [← needs_all]
    simp only [gd]
theorem reach_eq : ∀ (fuel d : Nat), Region.reachB md ops i fuel d = reachT (rtab md ops).2 i fuel d
  | 0, _ => rfl
  | fuel + 1, d => by
    unfold Region.reachB reachT
    cases h : ops[d]? with
    | none => rw [rtab_none h]
    | some o =>
      rw [rtab_some h]
      simp only
      rw [← needs_any]
      congr 1
      funext e
      rw [reach_eq fuel]
theorem last_eq : Region.lastB md ops l ds i = lastT (rtab md ops).2 l.toList ds i := by
  unfold Region.lastB lastT
  rw [rtab_length]
  congr 1
  funext d
  rw [gd, reach_eq]
theorem readyAt_mem (h : readyAt T.2 l.toList i = true) (hT : rtab md ops = T) : (Region.ready md ops l).contains i = true := by
  subst hT
  rw [ready_eq]
  unfold readyT
  rw [List.contains_iff_mem, List.mem_filter, List.mem_range]
  refine ⟨?_, h⟩
  unfold readyAt at h
  rw [Bool.and_eq_true] at h
  cases hq : (rtab md ops).2[i]? with
  | none => rw [hq] at h; simp at h
  | some r => exact (List.getElem?_eq_some_iff.1 hq).1
theorem set_of (h : (l.toList.set i true == l'.toList) = true) : (l.setIfInBounds i true == l') = true := by
  rw [beq_iff_eq] at h ⊢
  apply Array.ext'
  rw [Array.toList_setIfInBounds]
  exact h
def anyT (T : Bool × List (List Nat × List Nat)) (l l' : List Bool) (i : Nat) : Bool := T.1 && freeT T.2 l i && readyAt T.2 l i && (l.set i true == l')
theorem any_of (hT : rtab md ops = T) (h : anyT T l.toList l'.toList i = true) : anyB md ops l l' i = true := by
  simp only [anyT, Bool.and_eq_true] at h
  obtain ⟨⟨⟨h1, h2⟩, h3⟩, h4⟩ := h
  have h5 := readyAt_mem h3 hT
  have h6 := set_of h4
  subst hT
  simp only [anyB, Bool.and_eq_true]
  exact ⟨⟨⟨h1, by rw [free_eq]; exact h2⟩, h5⟩, h6⟩
def takeT (T : Bool × List (List Nat × List Nat)) (ds : List Nat) (l l' : List Bool) (i : Nat) : Bool := T.1 && freeT T.2 l i && readyAt T.2 l i && closedT T.2 l && lastT T.2 l ds i && (l.set i true == l')
theorem take_of (hT : rtab md ops = T) (h : takeT T ds l.toList l'.toList i = true) : takeB md ops ds l l' i = true := by
  simp only [takeT, Bool.and_eq_true] at h
  obtain ⟨⟨⟨⟨⟨h1, h2⟩, h3⟩, h4⟩, h5⟩, h6⟩ := h
  have h7 := readyAt_mem h3 hT
  have h8 := set_of h6
  subst hT
  simp only [takeB, Bool.and_eq_true]
  exact ⟨⟨⟨⟨⟨h1, by rw [free_eq]; exact h2⟩, h7⟩, by rw [closed_eq]; exact h4⟩, by rw [last_eq]; exact h5⟩, h8⟩
theorem one_of (hT : rtab md ops = T) (h : (readyT T.2 l.toList == [i] && l.toList.set i true == l'.toList) = true) : readyB md ops l l' i = true := by
  simp only [Bool.and_eq_true] at h
  obtain ⟨h1, h2⟩ := h
  subst hT
  simp only [readyB, Bool.and_eq_true]
  exact ⟨by rw [ready_eq]; exact h1, set_of h2⟩
theorem done_of (hT : rtab md ops = T) (h : (readyT T.2 l.toList == []) = true) : (Region.ready md ops l == []) = true := by
  subst hT
  rw [ready_eq]
  exact h
def upM (B : List Nat) (d : Nat) : List Nat → Nat
  | [] => 0
  | n :: r => (2 ^ n ||| (if n < d then B.getD n 0 else 0)) ||| upM B d r
def waitsOk (T : List (List Nat × List Nat)) (B : List Nat) : Bool := (List.range T.length).all fun d => match T[d]? with
  | some r => (B.getD d 0 ||| upM B d r.1) == upM B d r.1
  | none => false
theorem upM_bit {B : List Nat} {d i : Nat} : ∀ {ns : List Nat}, (upM B d ns).testBit i = true → ∃ n ∈ ns, n = i ∨ (n < d ∧ (B.getD n 0).testBit i = true)
  | [], h => by simp [upM] at h
  | n :: r, h => by
    unfold upM at h
    rw [Nat.testBit_or, Nat.testBit_or, Bool.or_eq_true, Bool.or_eq_true] at h
    rcases h with (h | h) | h
    · rw [Nat.testBit_two_pow] at h
      exact ⟨n, List.mem_cons_self, .inl (by simpa using h)⟩
    · by_cases hn : n < d
      · rw [if_pos hn] at h
        exact ⟨n, List.mem_cons_self, .inr ⟨hn, h⟩⟩
      · rw [if_neg hn] at h
        simp at h
    · obtain ⟨m, hm, h2⟩ := upM_bit h
      exact ⟨m, List.mem_cons_of_mem _ hm, h2⟩
theorem reach_bit {T : List (List Nat × List Nat)} {B : List Nat} (hB : waitsOk T B = true) : ∀ (fuel d : Nat), d < fuel → d < T.length → (B.getD d 0).testBit i = true → reachT T i fuel d = true
  | 0, d, h, _, _ => by omega
  | fuel + 1, d, h, hd, hb => by
    have h1 := List.all_eq_true.1 hB d (List.mem_range.2 hd)
    cases hr : T[d]? with
    | none => rw [hr] at h1; simp at h1
    | some r =>
      rw [hr] at h1
      simp only [beq_iff_eq] at h1
      have h2 : (upM B d r.1).testBit i = true := by rw [← h1, Nat.testBit_or, hb, Bool.true_or]
      obtain ⟨n, hn, h3⟩ := upM_bit h2
      unfold reachT
      rw [hr]
      simp only
      rw [List.any_eq_true]
      refine ⟨n, hn, ?_⟩
      rcases h3 with rfl | ⟨h4, h5⟩
      · simp
      · rw [reach_bit hB fuel n (by omega) (by omega) h5, Bool.or_true]
def lastW (T : List (List Nat × List Nat)) (B : List Nat) (l : List Bool) (ds : List Nat) (i : Nat) : Bool := ds.all fun d => l.getD d true || (decide (d < T.length) && (B.getD d 0).testBit i)
def takeW (T : Bool × List (List Nat × List Nat)) (B : List Nat) (ds : List Nat) (l l' : List Bool) (i : Nat) : Bool := T.1 && freeT T.2 l i && readyAt T.2 l i && closedT T.2 l && lastW T.2 B l ds i && (l.set i true == l')
theorem take_ofW {B : List Nat} (hT : rtab md ops = T) (hB : waitsOk T.2 B = true) (h : takeW T B ds l.toList l'.toList i = true) : takeB md ops ds l l' i = true := by
  refine take_of hT ?_
  simp only [takeW, takeT, Bool.and_eq_true] at h ⊢
  obtain ⟨⟨⟨⟨⟨h1, h2⟩, h3⟩, h4⟩, h5⟩, h6⟩ := h
  refine ⟨⟨⟨⟨⟨h1, h2⟩, h3⟩, h4⟩, ?_⟩, h6⟩
  unfold lastW at h5
  unfold lastT
  rw [List.all_eq_true] at h5 ⊢
  intro d hd
  have h7 := h5 d hd
  rw [Bool.or_eq_true, Bool.and_eq_true, decide_eq_true_eq] at h7
  rcases h7 with h7 | ⟨h8, h9⟩
  · rw [h7, Bool.true_or]
  · rw [reach_bit hB _ d h8 h8 h9, Bool.or_true]
theorem with_tabW {P : Program} {Q : Exit → Act → World → Prop} {S : World → Prop} {n : Nat} {a : Act} {w : World} {B : List Nat} (hT : rtab md ops = T) (hB : waitsOk T.2 B = true) (h : Aside0 (rtab md ops = T) → Aside0 (waitsOk T.2 B = true) → wpAnyLast P md ops Q S ds n l a w) : wpAnyLast P md ops Q S ds n l a w := h ⟨hT⟩ ⟨hB⟩
end
def opsIn : Code → Nat → Option (Array Oper)
  | .region id ops _, k => if id == k then some ops else none
  | .seq a b, k => match opsIn a k with
    | some o => some o
    | none => opsIn b k
  | .cond _ a b, k => match opsIn a k with
    | some o => some o
    | none => opsIn b k
  | .block _ c, k => opsIn c k
  | .loop c, k => opsIn c k
  | .scope c, k => opsIn c k
  | .rangeFunc _ _ a b, k => match opsIn a k with
    | some o => some o
    | none => opsIn b k
  | _, _ => none
def opsOf (f : Func) (k : Nat) : Array Oper := ((f.body.bind fun c => opsIn c k)).getD #[]
end Go.Proofs.YtopaddpclipnjaaW.PrintLast
namespace Go.Proofs.YtopaddpclipnjaaW.PrintWords
theorem Reps.front {α : Type} {R : α → List Value → Prop} {size : Nat} {ps : List α} {cs c all : List Value} {p : α} (hp : R p c) (hc : c.length = size) (h : Reps R size ps cs) (ha : c ++ cs = all) : Reps R size (p :: ps) all := by
  subst ha
  refine ⟨by rw [List.length_append, hc, h.1, List.length_cons, Nat.succ_mul, Nat.add_comm], fun j q hq => ?_⟩
  cases j with
  | zero =>
    simp only [List.getElem?_cons_zero, Option.some.injEq] at hq
    subst hq
    rw [Nat.zero_mul, List.drop_zero, List.take_append_of_le_length (by omega), List.take_of_length_le (by omega)]
    exact hp
  | succ j =>
    simp only [List.getElem?_cons_succ] at hq
    have h1 := h.2 j q hq
    rw [Nat.succ_mul, List.drop_append, List.drop_of_length_le (by rw [hc]; exact Nat.le_add_left _ _), List.nil_append, hc, Nat.add_sub_cancel]
    exact h1
theorem Reps.c2 {α : Type} {R : α → List Value → Prop} {ps : List α} {cs : List Value} {p : α} {va vb : Value} (hp : R p [va, vb]) (h : Reps R 2 ps cs) : Reps R 2 (p :: ps) (va :: vb :: cs) := Reps.front hp rfl h rfl
theorem Reps.c3 {α : Type} {R : α → List Value → Prop} {ps : List α} {cs : List Value} {p : α} {va vb vc : Value} (hp : R p [va, vb, vc]) (h : Reps R 3 ps cs) : Reps R 3 (p :: ps) (va :: vb :: vc :: cs) := Reps.front hp rfl h rfl
theorem Reps.c4 {α : Type} {R : α → List Value → Prop} {ps : List α} {cs : List Value} {p : α} {va vb vc vd : Value} (hp : R p [va, vb, vc, vd]) (h : Reps R 4 ps cs) : Reps R 4 (p :: ps) (va :: vb :: vc :: vd :: cs) := Reps.front hp rfl h rfl
theorem Reps.c5 {α : Type} {R : α → List Value → Prop} {ps : List α} {cs : List Value} {p : α} {va vb vc vd ve : Value} (hp : R p [va, vb, vc, vd, ve]) (h : Reps R 5 ps cs) : Reps R 5 (p :: ps) (va :: vb :: vc :: vd :: ve :: cs) := Reps.front hp rfl h rfl
theorem Reps.c6 {α : Type} {R : α → List Value → Prop} {ps : List α} {cs : List Value} {p : α} {va vb vc vd ve vf : Value} (hp : R p [va, vb, vc, vd, ve, vf]) (h : Reps R 6 ps cs) : Reps R 6 (p :: ps) (va :: vb :: vc :: vd :: ve :: vf :: cs) := Reps.front hp rfl h rfl
theorem Reps.c7 {α : Type} {R : α → List Value → Prop} {ps : List α} {cs : List Value} {p : α} {va vb vc vd ve vf vg : Value} (hp : R p [va, vb, vc, vd, ve, vf, vg]) (h : Reps R 7 ps cs) : Reps R 7 (p :: ps) (va :: vb :: vc :: vd :: ve :: vf :: vg :: cs) := Reps.front hp rfl h rfl
theorem Reps.c8 {α : Type} {R : α → List Value → Prop} {ps : List α} {cs : List Value} {p : α} {va vb vc vd ve vf vg vh : Value} (hp : R p [va, vb, vc, vd, ve, vf, vg, vh]) (h : Reps R 8 ps cs) : Reps R 8 (p :: ps) (va :: vb :: vc :: vd :: ve :: vf :: vg :: vh :: cs) := Reps.front hp rfl h rfl
theorem Reps.c9 {α : Type} {R : α → List Value → Prop} {ps : List α} {cs : List Value} {p : α} {va vb vc vd ve vf vg vh vi : Value} (hp : R p [va, vb, vc, vd, ve, vf, vg, vh, vi]) (h : Reps R 9 ps cs) : Reps R 9 (p :: ps) (va :: vb :: vc :: vd :: ve :: vf :: vg :: vh :: vi :: cs) := Reps.front hp rfl h rfl
theorem Reps.c10 {α : Type} {R : α → List Value → Prop} {ps : List α} {cs : List Value} {p : α} {va vb vc vd ve vf vg vh vi vj : Value} (hp : R p [va, vb, vc, vd, ve, vf, vg, vh, vi, vj]) (h : Reps R 10 ps cs) : Reps R 10 (p :: ps) (va :: vb :: vc :: vd :: ve :: vf :: vg :: vh :: vi :: vj :: cs) := Reps.front hp rfl h rfl
end Go.Proofs.YtopaddpclipnjaaW.PrintWords
namespace Go.Proofs.YtopaddpclipnjaaW.PrintLast
def up (b : Nat → Bool) (i : Nat) : Nat → Bool := fun j => if j = i then true else b j
section
variable {P : Program} {ops : Array Oper} {Q : Exit → Act → World → Prop} {md : Region.Mode} {T : Bool × List (List Nat × List Nat)} {B : List Nat} {O : List Nat} {b : Nat → Bool} {i j n : Nat}
end
end Go.Proofs.YtopaddpclipnjaaW.PrintLast
namespace Go.Proofs.YtopaddpclipnjaaW.PrintWords
open Go.RowKit
section
variable {P : Program} {ops : Array Oper} {rest : List Oper} {o : Oper} {a : Act} {Q : Exit → Act → World → Prop} {W : World}
theorem gate_guard (hw : Region.wanted o (yielded ops a.tmps) = true) (h : wpList P ops Q ({ o with guard := none } :: rest) a W) : wpList P ops Q (o :: rest) a W := by
  have h1 : Region.wanted { o with guard := none } (yielded ops a.tmps) = true := rfl
  unfold wpList at h ⊢
  rw [if_pos h1] at h
  rw [if_pos hw]
  exact h
end
end Go.Proofs.YtopaddpclipnjaaW.PrintWords
namespace Go.Proofs.YtopaddpclipnjaaQ.P
open Go.RowKit Go.Proofs.YtopaddpclipnjaaW.PrintWords Go.Proofs.YtopaddpclipnjaaW.PrintLast Go.Proofs.YtopaddpclipnjaaW.PrintMore
attribute [local go_sem] max2_int min2_int max_two min_two max_three min_three max_four min_four
def errW : Option Int → Value
 | none => .nilIface
 | some c => .iface 0 (.int .i64 c)
theorem errW_none : errW none = .nilIface := rfl
theorem errW_some (c : Int) : errW (some c) = .iface 0 (.int .i64 c) := rfl
theorem info9 : (Try.prog.info? 9).map (fun i => (i.zero, i.size, i.bytes)) = some (some (.string ⟨#[]⟩), 1, 16) := by kernel_rfl
end Go.Proofs.YtopaddpclipnjaaQ.P
namespace Go.Proofs.Ytopaddpclipnjaa
open Go.RowKit
section
variable {W W' w w1 w2 : World} {g j : Nat} {cs : Array Value} {T : TypeId} {fr : Nat × Nat} {v : Value}
theorem blk_new (W : World) (o : Obj) : (W.alloc o).heap[W.heap.size]? = some o := heap_alloc_new W o
theorem blk_lt {o : Obj} (h : W.heap[g]? = some o) : g < W.heap.size := (Array.getElem?_eq_some_iff.1 h).1
theorem blk_cell (h : W.heap[g]? = some (.cells cs T fr)) (hv : cs[j]? = some v) : W.cell? ⟨g, j, none⟩ = some v := by
  simp [World.cell?, h, hv]
theorem blk_free (h : W.heap[g]? = some (.cells cs T (0, 0))) (j : Nat) : W.frozen? ⟨g, j, none⟩ = false := by
  simp [World.frozen?, h]
theorem blk_below {B : Nat} (hb : Below B W W') (hg : g < B) {o : Obj} (h : W.heap[g]? = some o) : W'.heap[g]? = some o := (hb.block g hg).trans h
theorem blk_alloc (o' : Obj) {o : Obj} (h : W.heap[g]? = some o) : (W.alloc o').heap[g]? = some o := (Below.heap_alloc W o' g (blk_lt h)).trans h
theorem size_alloc (W : World) (o : Obj) : (W.alloc o).heap.size = W.heap.size + 1 := by simp
theorem blk_new2 (W : World) (o1 o2 : Obj) : ((W.alloc o1).alloc o2).heap[W.heap.size + 1]? = some o2 := by
  have := blk_new (W.alloc o1) o2
  rwa [size_alloc] at this
theorem blk_new1 (W : World) (o1 o2 : Obj) : ((W.alloc o1).alloc o2).heap[W.heap.size]? = some o1 := (Below.heap_alloc (W.alloc o1) o2 W.heap.size (by rw [size_alloc]; omega)).trans (blk_new W o1)
theorem cell_alloc2 (W : World) (o1 o2 : Obj) {b j : Nat} (hb : b < W.heap.size) : ((W.alloc o1).alloc o2).cell? ⟨b, j, none⟩ = W.cell? ⟨b, j, none⟩ :=
  World.cell?_of_block ((Below.heap_alloc (W.alloc o1) o2 b (by rw [size_alloc]; omega)).trans (Below.heap_alloc W o1 b hb))
theorem blk_call (hb : Below W.heap.size W W') {o : Obj} (h : W.heap[g]? = some o) : W'.heap[g]? = some o := blk_below hb (blk_lt h) h
theorem blk_set (h : W.heap[g]? = some (.cells cs T fr)) (j : Nat) (v : Value) : (W.setCell ⟨g, j, none⟩ v).heap[g]? = some (.cells (cs.setIfInBounds j v) T fr) := by
  simp [World.setCell, Array.getElem?_modify, h]
theorem blk_set_far {o : Obj} (h : W.heap[g]? = some o) {a : Addr} (ha : g ≠ a.block) (v : Value) : (W.setCell a v).heap[g]? = some o := (Below.heap_setCell W a v g ha).trans h
theorem bel {w w1 w2 : World} (h : Below w.heap.size w w1) (k : Below w1.heap.size w1 w2) : Below w.heap.size w w2 := h.trans ⟨k.os, k.tape, k.output, k.size, fun i hi => k.block i (Nat.lt_of_lt_of_le hi h.size)⟩
theorem bels {B : Nat} {w w1 w2 : World} (h : Below B w w1) (hB : B ≤ w1.heap.size) (k : Below w1.heap.size w1 w2) : Below B w w2 := h.trans ⟨k.os, k.tape, k.output, k.size, fun i hi => k.block i (Nat.lt_of_lt_of_le hi hB)⟩
theorem bcell {W w1 : World} (hb : Below W.heap.size W w1) : (∀ b o, b < W.heap.size → w1.cell? ⟨b, o, none⟩ = W.cell? ⟨b, o, none⟩) ∧ (∀ b o, b < W.heap.size → w1.frozen? ⟨b, o, none⟩ = W.frozen? ⟨b, o, none⟩) :=
  ⟨fun b o h => hb.cell (p := ⟨b, o, none⟩) h, fun b o h => hb.frozen (p := ⟨b, o, none⟩) h⟩
theorem bal {w w1 : World} (h : Below w.heap.size w w1) (o : Obj) : Below w.heap.size w (w1.alloc o) := h.alloc h.size o
theorem size_lt {B n : Nat} {w w1 : World} (h : Below B w w1) (hn : n < w.heap.size) : n < w1.heap.size := Nat.lt_of_lt_of_le hn h.size
theorem bset {B : Nat} {a w : World} (h : Below B a w) {p : Addr} (hp : B ≤ p.block) (u : Value) : Below B a (w.setCell p u) := h.setCell hp u
theorem bdn {B : Nat} {a w : World} (h : Below B a w) (n : Nat) : Below B a (w.drewN n) := h.trans ⟨rfl, rfl, rfl, Nat.le_refl _, fun _ _ => rfl⟩
end
theorem ret_int {k : IntKind} {a b : Int} (h : a = b) : Ending.returned (.int k a) = .returned (.int k b) := by rw [h]
theorem ret_bool {a b : Bool} (h : a = b) : Ending.returned (.bool a) = .returned (.bool b) := by rw [h]
theorem len_data (t : ByteArray) : t.data.toList.length = t.size := by rw [Array.length_toList]; rfl
theorem bytes_of_eq {a b : ByteArray} (h : (a.toList == b.toList) = true) : a = b := by
  rw [ByteArray.toList_eq, ByteArray.toList_eq] at h
  apply ByteArray.ext
  exact Array.toList_inj.1 (by simpa using h)
theorem bytes_eq_self (a : ByteArray) : (a.toList == a.toList) = true := by simp
end Go.Proofs.Ytopaddpclipnjaa
namespace Go.Proofs.Ytopaddpclipnjaa
open Go.RowKit
def SlAt (W : World) (v : Value) (sz n : Nat) (cells : List Value) : Prop :=
  cells.length = n * sz ∧ ∃ a c, v = .slice a n c ∧ n ≤ c ∧ n ≤ maxLen ∧ (n = 0 ∨ ∃ b o, a = some ⟨b, o, none⟩ ∧ b < W.heap.size ∧ ∀ j u, cells[j]? = some u → W.cell? ⟨b, o + j, none⟩ = some u)
section
variable {W W' : World} {v : Value} {sz n : Nat} {cells : List Value}
theorem SlAt.stay (h : SlAt W v sz n cells) (hb : Below W.heap.size W W') : SlAt W' v sz n cells := by
  obtain ⟨hl, a, c, hv, h1, h2, h3⟩ := h
  refine ⟨hl, a, c, hv, h1, h2, ?_⟩
  rcases h3 with h3 | ⟨b, o, ha, hlt, hc⟩
  · exact .inl h3
  · exact .inr ⟨b, o, ha, Nat.lt_of_lt_of_le hlt hb.size, fun j u hu => (hb.cell (p := ⟨b, o + j, none⟩) hlt).trans (hc j u hu)⟩
theorem SlAt.form (h : SlAt W v sz n cells) : ∃ a c, v = .slice a n c ∧ n ≤ c ∧ n ≤ maxLen := by
  obtain ⟨_, a, c, hv, h1, h2, _⟩ := h
  exact ⟨a, c, hv, h1, h2⟩
theorem SlAt.nil (W : World) (sz : Nat) : SlAt W (.slice none 0 0) sz 0 [] := ⟨by simp, none, 0, rfl, Nat.le_refl _, Nat.zero_le _, .inl rfl⟩
theorem SlAt.le (h : SlAt W v sz n cells) : n ≤ maxLen := by
  obtain ⟨a, c, _, h1, h2⟩ := h.form
  omega
theorem SlAt.at {a : Option Addr} {c : Nat} (h : SlAt W (.slice a n c) sz n cells) (hn : 0 < n) : ∃ b o, a = some ⟨b, o, none⟩ ∧ b < W.heap.size ∧ ∀ j u, cells[j]? = some u → W.cell? ⟨b, o + j, none⟩ = some u := by
  obtain ⟨_, a', c', hv, _, _, h3⟩ := h
  injection hv with e1 e2 e3
  subst e1
  rcases h3 with h3 | h3
  · omega
  · exact h3
theorem SlAt.of_own {base : Nat} {e : TypeId} (h : W.ownsRow base e sz v n cells) (hm : n ≤ maxLen) : SlAt W v sz n cells := by
  rcases h.2 with ⟨hv, h0⟩ | ⟨g, cap, cur, hv, hb, hg, h1, h2, hs, ht⟩
  · subst h0
    exact ⟨h.1, none, 0, hv, Nat.le_refl _, Nat.zero_le _, .inl rfl⟩
  · refine ⟨h.1, some ⟨g, 0, none⟩, cap, hv, h1, hm, .inr ⟨g, 0, rfl, blk_lt hg, fun j u hu => ?_⟩⟩
    have := h.cells (g := g) (by rw [hv]; rfl) j u hu
    have hadd : (⟨g, 0, none⟩ : Addr).add j = ⟨g, 0 + j, none⟩ := by unfold Addr.add; split <;> simp_all
    rwa [hadd] at this
end
def FreshV (B : Nat) (v : Value) : Prop := ∀ b, v.ownBlock = some b → B ≤ b
theorem FreshV.mono {B B' : Nat} {v : Value} (h : FreshV B v) (hB : B' ≤ B) : FreshV B' v := fun b hb => Nat.le_trans hB (h b hb)
theorem FreshV.nil (B : Nat) (l c : Nat) : FreshV B (.slice none l c) := fun b hb => by simp [Value.ownBlock] at hb
theorem FreshV.of_own {W : World} {B : Nat} {e : TypeId} {v : Value} {sz n : Nat} {cells : List Value} (h : W.ownsRow B e sz v n cells) : FreshV B v := fun b hb => (h.lt b hb).1
theorem SlAt.store {W : World} {v : Value} {sz n : Nat} {cells : List Value} (h : SlAt W v sz n cells) {p : Addr} (hne : ∀ b, v.ownBlock = some b → b ≠ p.block) (u : Value) : SlAt (W.setCell p u) v sz n cells := by
  obtain ⟨hl, a, c, hv, h1, h2, h3⟩ := h
  refine ⟨hl, a, c, hv, h1, h2, ?_⟩
  rcases h3 with h3 | ⟨b, o, ha, hlt, hc⟩
  · exact .inl h3
  · refine .inr ⟨b, o, ha, by simpa [World.setCell] using hlt, fun j u' hu => ?_⟩
    have hb : b ≠ p.block := hne b (by rw [hv, ha]; rfl)
    have : (W.setCell p u).cell? ⟨b, o + j, none⟩ = W.cell? ⟨b, o + j, none⟩ := World.cell?_of_block (Below.heap_setCell W p u b hb)
    rw [this]
    exact hc j u' hu
theorem SlAt.alloc {W : World} {v : Value} {sz n : Nat} {cells : List Value} (h : SlAt W v sz n cells) (o : Obj) : SlAt (W.alloc o) v sz n cells := h.stay (bal (Below.refl _ _) _)
def strs (xs : List ByteArray) : List Value := xs.map Value.string
theorem strs_len (xs : List ByteArray) : (strs xs).length = xs.length := by simp [strs]
theorem strs_get (xs : List ByteArray) (i : Nat) (h : i < xs.length) : (strs xs)[i]? = some (.string xs[i]) := by simp [strs, h]
def idxOf {α : Type} (p : α → Bool) (xs : List α) : Int := match xs.findIdx? p with | some i => i | none => -1
theorem idxOf_found {α : Type} {p : α → Bool} {xs : List α} {i : Nat} (h : i < xs.length) (hp : p xs[i] = true) (hn : ∀ j (hj : j < i), p (xs[j]'(by omega)) = false) : idxOf p xs = i := by
  unfold idxOf
  have : xs.findIdx? p = some i := by
    rw [List.findIdx?_eq_some_iff_getElem]
    exact ⟨h, hp, fun j hj => by simp [hn j hj]⟩
  rw [this]
theorem idxOf_none {α : Type} {p : α → Bool} {xs : List α} (hn : ∀ j (hj : j < xs.length), p xs[j] = false) : idxOf p xs = -1 := by
  unfold idxOf
  have : xs.findIdx? p = none := by
    rw [List.findIdx?_eq_none_iff]
    intro x hx
    obtain ⟨j, hj, rfl⟩ := List.mem_iff_getElem.1 hx
    exact hn j hj
  rw [this]
theorem idxOf_any {α : Type} (p : α → Bool) (xs : List α) : decide (0 ≤ idxOf p xs) = xs.any p := by
  unfold idxOf
  cases h : xs.findIdx? p with
  | none =>
    rw [List.findIdx?_eq_none_iff] at h
    have : xs.any p = false := by
      rw [List.any_eq_false]
      intro x hx
      simp [h x hx]
    rw [this]
    rfl
  | some i =>
    have : xs.any p = true := by
      rw [List.findIdx?_eq_some_iff_getElem] at h
      obtain ⟨hi, hp, _⟩ := h
      exact List.any_eq_true.2 ⟨_, List.getElem_mem hi, hp⟩
    rw [this]
    simp
def badSize (x : ByteArray) : Bool := (x.size : Int) != 128
def rightD (xs : List ByteArray) : Bool := decide (10 ≤ xs.length) && decide (xs.length ≤ 130) && !xs.any badSize
def mayD (xs : List ByteArray) (i : Int) : Int := if rightD xs = false then 1 else if 0 ≤ i ∧ i < xs.length then 0 else 3
theorem mayD_no {xs : List ByteArray} (h : rightD xs = false) (i : Int) : mayD xs i = 1 := by unfold mayD; rw [if_pos h]
theorem mayD_in {xs : List ByteArray} (h : rightD xs = true) {i : Int} (h0 : 0 ≤ i) (h1 : i < xs.length) : mayD xs i = 0 := by unfold mayD; rw [if_neg (by simp [h]), if_pos ⟨h0, h1⟩]
theorem mayD_out {xs : List ByteArray} (h : rightD xs = true) {i : Int} (h0 : i < 0 ∨ xs.length ≤ i) : mayD xs i = 3 := by unfold mayD; rw [if_neg (by simp [h]), if_neg (by omega)]
theorem mayD_zero {xs : List ByteArray} {i : Int} (h : mayD xs i = 0) : rightD xs = true ∧ 0 ≤ i ∧ i < xs.length := by
  unfold mayD at h
  split at h
  · omega
  · rename_i h1
    split at h
    · rename_i h2
      exact ⟨by simpa using h1, h2⟩
    · omega
theorem rightD_sizes {xs : List ByteArray} (h : rightD xs = true) : 10 ≤ xs.length ∧ xs.length ≤ 130 ∧ ∀ x ∈ xs, x.size = 128 := by
  unfold rightD at h
  simp only [Bool.and_eq_true, decide_eq_true_eq, Bool.not_eq_true', List.any_eq_false, Bool.not_eq_true] at h
  refine ⟨h.1.1, h.1.2, fun x hx => ?_⟩
  have := h.2 x hx
  unfold badSize at this
  simp at this
  omega
def over (x t : ByteArray) (k : Nat) : ByteArray := ⟨(t.data.toList.take k ++ x.data.toList.drop k).toArray⟩
def tearE (xs : List ByteArray) (i : Int) (t : ByteArray) (k : Int) : Int :=
  if mayD xs i ≠ 0 then mayD xs i else if t.size ≠ 128 then 2 else if k < 0 ∨ 128 < k then 1 else 0
def tearL (xs : List ByteArray) (i : Int) (t : ByteArray) (k : Int) : List ByteArray :=
  if tearE xs i t k = 0 then xs.set i.toNat (over (xs.getD i.toNat ByteArray.empty) t k.toNat) else []
end Go.Proofs.Ytopaddpclipnjaa
namespace Go.Proofs.Ytopaddpclipnjaa
open Go.RowKit
section
variable {P : Program} {ops : Array Oper} {rest : List Oper} {o : Oper} {a : Act} {Q : Exit → Act → World → Prop} {K : Act → World → Prop} {W w0 w1 : World} {v : Value} {e : TypeId} {B n sz : Nat} {xs : List Value}
theorem size_set (W : World) (p : Addr) (u : Value) : (W.setCell p u).heap.size = W.heap.size := by simp [World.setCell]
end
end Go.Proofs.Ytopaddpclipnjaa
namespace Go.Proofs.Ytopaddpclipnjaa
open Go.RowKit
structure Ext (w : World) where
  W : World
  bel : Below w.heap.size w W
instance (w : World) : Nonempty (Ext w) := ⟨⟨w, Below.refl _ _⟩⟩
def ext (w : World) (x : Ext w) : World := x.W
def more {w : World} (x : Ext w) : Nat := x.W.heap.size - w.heap.size
def cellX {w : World} (x : Ext w) (a : Addr) : Option Value := x.W.cell? a
def frozenX {w : World} (x : Ext w) (a : Addr) : Bool := x.W.frozen? a
section
variable {w w1 W : World}
theorem ext_bel (w : World) (x : Ext w) : Below w.heap.size w (ext w x) := x.bel
theorem ext_of (h : Below w.heap.size w W) : ∃ x, W = ext w x := ⟨⟨W, h⟩, rfl⟩
theorem ext_size (x : Ext w) : (ext w x).heap.size = w.heap.size + more x := by
  have := x.bel.size
  unfold ext more
  omega
theorem ext_cell (x : Ext w) (b o : Nat) : (ext w x).cell? ⟨b, o, none⟩ = if b < w.heap.size then w.cell? ⟨b, o, none⟩ else cellX x ⟨b, o, none⟩ := by
  split
  · rename_i h
    exact x.bel.cell (p := ⟨b, o, none⟩) h
  · rfl
theorem ext_frozen (x : Ext w) (b o : Nat) : (ext w x).frozen? ⟨b, o, none⟩ = if b < w.heap.size then w.frozen? ⟨b, o, none⟩ else frozenX x ⟨b, o, none⟩ := by
  split
  · rename_i h
    exact x.bel.frozen (p := ⟨b, o, none⟩) h
  · rfl
theorem alloc_cell (W : World) (cs : Array Value) (T : TypeId) (fr : Nat × Nat) (b o : Nat) : (W.alloc (.cells cs T fr)).cell? ⟨b, o, none⟩ = if b < W.heap.size then W.cell? ⟨b, o, none⟩ else if b = W.heap.size then cs[o]? else none := by
  split
  · rename_i h
    exact World.cell?_of_block (Below.heap_alloc W _ b h)
  · rename_i h
    split
    · rename_i h2
      subst h2
      simp only [World.cell?, blk_new]
      rfl
    · rename_i h2
      simp only [World.cell?]
      rw [Array.getElem?_eq_none (by rw [size_alloc]; omega)]
theorem alloc_frozen (W : World) (cs : Array Value) (T : TypeId) (b o : Nat) : (W.alloc (.cells cs T (0, 0))).frozen? ⟨b, o, none⟩ = if b < W.heap.size then W.frozen? ⟨b, o, none⟩ else false := by
  split
  · rename_i h
    exact World.frozen?_of_block (Below.heap_alloc W _ b h)
  · rename_i h
    by_cases h2 : b = W.heap.size
    · subst h2
      simp only [World.frozen?, blk_new]
      simp
    · simp only [World.frozen?]
      rw [Array.getElem?_eq_none (by rw [size_alloc]; omega)]
theorem bext (h : Below w.heap.size w w1) (x : Ext w1) : Below w.heap.size w (ext w1 x) := bel h x.bel
theorem bdr (h : Below w.heap.size w w1) : Below w.heap.size w w1.drew := h.drew
theorem bdrN (h : Below w.heap.size w w1) (n : Nat) : Below w.heap.size w (w1.drewN n) := bdn h n
theorem bst (h : Below w.heap.size w w1) {p : Addr} (u : Value) (hp : w.heap.size ≤ p.block) : Below w.heap.size w (w1.setCell p u) := bset h hp u
theorem drew_ext (w : World) : ∃ x, w.drew = ext w x := ext_of (Below.refl _ _).drew
variable {P : Program}
theorem wp_region_ext {id : Nat} {Q : Exit → Act → World → Prop} {a : Act} {w : World} {l : List Oper} (hm : P.follows .mixedOrders = true) (hB : Region.lexB .any l.toArray = true)
    (h : wpQuiet P l.toArray (fun w' => ∃ x, w' = ext w x) (fun a' => ∀ w', (∃ x, w' = ext w x) → Q .normal a' w') l a) : (Code.region id l.toArray true).wp P Q a w :=
  wp_region_quiet (C := fun w' => ∃ x, w' = ext w x) hm hB (drew_ext w) (by simpa using h)
theorem Calls.grew {f : FuncId} {args : Array Value} {x : Ext w} {v : Value}
    (h : Calls P f args (ext w x) fun e w' => e = .returned v ∧ Below (ext w x).heap.size (ext w x) w') : Calls P f args (ext w x) fun e w'' => e = .returned v ∧ ∃ m, w'' = ext w m :=
  h.mono fun _ _ ⟨he, hm⟩ => ⟨he, ext_of (bel x.bel hm)⟩
end
end Go.Proofs.Ytopaddpclipnjaa
namespace Go.Proofs.Ytopaddpclipnjaa
open Go.RowKit
theorem flat_get {α : Type} {en : α → List Value} {sz : Nat} (hsz : ∀ x, (en x).length = sz) : ∀ (xs : List α) (i j : Nat) (h : i < xs.length), j < sz → (xs.flatMap en)[i * sz + j]? = (en xs[i])[j]?
  | x :: xs, 0, j, h, hj => by
    rw [List.flatMap_cons, List.getElem?_append_left (by rw [hsz]; omega)]
    simp
  | x :: xs, i + 1, j, h, hj => by
    rw [List.flatMap_cons, List.getElem?_append_right (by rw [hsz, Nat.succ_mul]; omega)]
    have e : (i + 1) * sz + j - (en x).length = i * sz + j := by rw [hsz, Nat.succ_mul]; omega
    rw [e, flat_get hsz xs i j (by simpa using h) hj]
    simp
theorem flat_len {α : Type} {en : α → List Value} {sz : Nat} (hsz : ∀ x, (en x).length = sz) (xs : List α) : (xs.flatMap en).length = xs.length * sz := by
  induction xs with
  | nil => simp
  | cons x xs ih => rw [List.flatMap_cons, List.length_append, ih, hsz, List.length_cons, Nat.succ_mul]; omega
end Go.Proofs.Ytopaddpclipnjaa
namespace Go.Proofs.Ytopaddpclipnjaa
open Go.RowKit Go.ChangeShapes Go.WideShapes Go.ChangeAt
theorem add_off (b o j : Nat) : (⟨b, o, none⟩ : Addr).add j = ⟨b, o + j, none⟩ := by unfold Addr.add; split <;> simp_all
section
variable {H : Type} {enc : TypeId × Value → H} {P : Program} {W : World} {r : Reach} {base bb : Nat} {spare : Nat → Bool} {held : Bool} {t e : TypeId} {v : Value} {d : DataW H} {p : List MemPlace}
theorem cell_spot {a : Addr} {u : Value} (h : W.cell? a = some u) : a.spot = none := by
  unfold World.cell? at h
  split at h
  · split at h
    · cases h
    · rename_i hs
      cases hsp : a.spot with
      | none => rfl
      | some x => simp [hsp] at hs
  · cases h
theorem sl_of_trod {sz : Nat} (ht : P.underlying t = some (.slice e)) (hsz : P.cellsOf e = sz) (h0 : 0 < sz) (h : DataW.Trod enc P W base spare held t v d p) (hv : ∃ a l c, v = .slice a l c) :
    ∃ n cells, SlAt W v sz n cells ∧ ∀ i, i < n → ∃ f y, DataW.trod enc P W base spare held f e ((cells.drop (i * sz)).take sz) = some y := by
  obtain ⟨a0, l0, c0, rfl⟩ := hv
  obtain ⟨fuel, hf⟩ := h
  rcases DataW.trod_slice ht hf with ⟨hcs, _⟩ | ⟨a, len, cap, elems, rest, n, _, hcs, _, hb, hl, hm, hlen, hel, _, _⟩
  · have hcs' : [Value.slice a0 l0 c0] = [.slice none 0 0] := hcs
    injection hcs' with e1 _
    injection e1 with e1 e2 e3
    subst e1 e2 e3
    exact ⟨0, [], SlAt.nil _ _, fun i hi => absurd hi (by omega)⟩
  · have hcs' : [Value.slice a0 l0 c0] = [.slice (some a) len cap] := hcs
    injection hcs' with e1 _
    injection e1 with e1 e2 e3
    subst e1 e2 e3
    rw [hsz] at hel
    have each : ∀ i, i < l0 → ∃ cs y, W.cells? base (a.add (i * sz)) sz = some cs ∧ DataW.trod enc P W base spare held n e cs = some y := by
      intro i hi
      have h1 := hel i hi
      rw [List.getElem?_eq_getElem (by omega)] at h1
      obtain ⟨cs, h2, h3⟩ := Option.bind_eq_some_iff.1 h1
      exact ⟨cs, _, h2, h3⟩
    have hadd : ∀ i j, (a.add i).add j = a.add (i + j) := by
      intro i j
      unfold Addr.add
      by_cases h1 : i = 0 <;> by_cases h2 : j = 0 <;> simp [h1, h2, Nat.add_assoc]
    have hcell : ∀ j, j < l0 * sz → ∃ u, W.cell? (a.add j) = some u := by
      intro j hj
      have hi : j / sz < l0 := (Nat.div_lt_iff_lt_mul h0).2 hj
      obtain ⟨cs, y, h2, _⟩ := each (j / sz) hi
      obtain ⟨_, h4, h5⟩ := World.cells?_some h2
      have hr : j % sz < sz := Nat.mod_lt _ h0
      have h6 := h5 (j % sz) hr
      rw [hadd, Nat.div_add_mod' j sz] at h6
      exact ⟨_, h6.trans (List.getElem?_eq_getElem (by omega))⟩
    have hj' : ∀ j, j < l0 * sz → W.cell? (a.add j) = some ((W.cell? (a.add j)).getD undef) := by
      intro j hj
      obtain ⟨u, hu⟩ := hcell j hj
      rw [hu]
      rfl
    refine ⟨l0, (List.range (l0 * sz)).map fun j => (W.cell? (a.add j)).getD undef, ⟨by simp, some a, c0, rfl, hl, by omega, ?_⟩, ?_⟩
    · rcases Nat.eq_zero_or_pos l0 with hz | hz
      · exact .inl hz
      · right
        obtain ⟨u, hu⟩ := hcell 0 (Nat.mul_pos hz h0)
        have hsp := cell_spot hu
        have ha0 : a.add 0 = a := by simp [Addr.add]
        rw [ha0] at hsp hu
        obtain ⟨b, o, s⟩ := a
        simp only at hsp
        subst hsp
        refine ⟨b, o, rfl, World.block_lt_of_cell? W _ hu, fun j u' hu' => ?_⟩
        rw [List.getElem?_map] at hu'
        obtain ⟨k, hk, rfl⟩ := Option.map_eq_some_iff.1 hu'
        obtain ⟨hk1, hk2⟩ := List.getElem?_eq_some_iff.1 hk
        rw [List.getElem_range] at hk2
        subst hk2
        rw [List.length_range] at hk1
        have := hj' j hk1
        rw [add_off] at this ⊢
        exact this
    · intro i hi
      obtain ⟨cs, y, h2, h3⟩ := each i hi
      obtain ⟨_, h4, h5⟩ := World.cells?_some h2
      refine ⟨n, y, ?_⟩
      have hchunk : (((List.range (l0 * sz)).map fun j => (W.cell? (a.add j)).getD undef).drop (i * sz)).take sz = cs := by
        have hle : i * sz + sz ≤ l0 * sz := by rw [← Nat.succ_mul]; exact Nat.mul_le_mul_right _ hi
        apply List.ext_getElem
        · simp only [List.length_take, List.length_drop, List.length_map, List.length_range]
          omega
        · intro j h6 h7
          simp only [List.length_take, List.length_drop, List.length_map, List.length_range] at h6
          simp only [List.getElem_take, List.getElem_drop, List.getElem_map, List.getElem_range]
          have h8 := h5 j (by omega)
          rw [hadd] at h8
          rw [h8, List.getElem?_eq_getElem h7]
          rfl
      rw [hchunk]
      exact h3
theorem flat_strs (xs : List ByteArray) : xs.flatMap (fun s => [Value.string s]) = strs xs := by
  induction xs with
  | nil => rfl
  | cons x xs ih =>
    rw [List.flatMap_cons, ih]
    rfl
theorem slice_of_trod {u : Value} {fuel : Nat} {x : DataW H × List MemPlace} (ht : P.underlying t = some (.slice e)) (h : DataW.trod enc P W base spare held fuel t [u] = some x) : (∃ a l c, u = .slice a l c) ∧ DataW.Trod enc P W base spare held t u x.1 x.2 := by
  have hu : ∃ a l c, u = .slice a l c := by
    rcases DataW.trod_slice ht h with ⟨hcs, _⟩ | ⟨a, len, cap, elems, rest, n, _, hcs, _⟩
    · injection hcs with e1 _
      exact ⟨_, _, _, e1⟩
    · injection hcs with e1 _
      exact ⟨_, _, _, e1⟩
  refine ⟨hu, ?_⟩
  obtain ⟨a, l, c, rfl⟩ := hu
  exact ⟨fuel, h⟩
end
end Go.Proofs.Ytopaddpclipnjaa
namespace Go.Proofs.Ytopaddpclipnjaa
open Go.RowKit Go.Proofs.YtopaddpclipnjaaW.PrintWords
theorem flat_get? {α : Type} {en : α → List Value} {sz : Nat} (hsz : ∀ x, (en x).length = sz) (h0 : 0 < sz) (xs : List α) (t : Nat) (u : Value) (hu : (xs.flatMap en)[t]? = some u) :
    ∃ h : t / sz < xs.length, (en xs[t / sz])[t % sz]? = some u := by
  have hl : t < (xs.flatMap en).length := (List.getElem?_eq_some_iff.1 hu).1
  rw [flat_len hsz] at hl
  have h1 : t / sz < xs.length := (Nat.div_lt_iff_lt_mul h0).2 hl
  refine ⟨h1, ?_⟩
  have := flat_get hsz xs (t / sz) (t % sz) h1 (Nat.mod_lt _ h0)
  rw [Nat.div_add_mod'] at this
  rw [← this, hu]
section
variable {α β : Type} {d : Kd α} {en : β → List Value} {f : α → β} {w W : World} {A : Option Addr} {c g cap n sz B : Nat} {e : TypeId} {xs : List α} {cells : List Value} {v : Value}
theorem slat_of_C (hK : ∀ {w : World} {x : α} {cs : List Value}, d.K w x cs → cs = en (f x)) (hsz : ∀ y, (en y).length = d.sz) (h0 : 0 < d.sz) (h : d.C w A xs.length xs) (hc : xs.length ≤ c) :
    SlAt w (.slice A xs.length c) d.sz xs.length ((xs.map f).flatMap en) := by
  obtain ⟨_, hm, hr⟩ := h
  refine ⟨by rw [flat_len hsz, List.length_map], A, c, rfl, hc, by unfold maxLen; omega, ?_⟩
  rcases Nat.eq_zero_or_pos xs.length with hz | hz
  · exact .inl hz
  · right
    obtain ⟨ad, rfl, hcell⟩ := hr hz
    have hget : ∀ t u, ((xs.map f).flatMap en)[t]? = some u → w.cell? (ad.add t) = some u := by
      intro t u hu
      obtain ⟨h1, h2⟩ := flat_get? hsz h0 _ t u hu
      rw [List.length_map] at h1
      obtain ⟨cs, _, hk, hcs⟩ := hcell (t / d.sz) xs[t / d.sz] (List.getElem?_eq_getElem h1)
      have := hcs (t % d.sz) u (by rw [hK hk]; simpa using h2)
      rwa [Nat.div_add_mod'] at this
    have hfl : 0 < ((xs.map f).flatMap en).length := by rw [flat_len hsz, List.length_map]; exact Nat.mul_pos hz h0
    have h1 := hget 0 _ (List.getElem?_eq_getElem hfl)
    have ha0 : ad.add 0 = ad := by simp [Addr.add]
    rw [ha0] at h1
    have hsp := cell_spot h1
    obtain ⟨b, o, s⟩ := ad
    simp only at hsp
    subst hsp
    refine ⟨b, o, rfl, World.block_lt_of_cell? _ _ h1, fun j u hu => ?_⟩
    have := hget j u hu
    rwa [add_off] at this
end
end Go.Proofs.Ytopaddpclipnjaa
namespace Go.Proofs.Ytopaddpclipnjaa
open Go.RowKit
def PredStr (f : FuncId) (caps : Array Value) (w : World) (p : ByteArray → Bool) (xs : List ByteArray) : Prop :=
  ∀ x ∈ xs, ∀ W, Below w.heap.size w W → Calls Try.prog f (#[.string x] ++ caps) W fun e W' => e = .returned (.bool (p x)) ∧ Below W.heap.size W W'
theorem indexFuncS_any (v : Value) (xs : List ByteArray) (f : FuncId) (caps : Array Value) (p : ByteArray → Bool) (w : World) (hS : SlAt w v 1 xs.length (strs xs)) (hp : PredStr f caps w p xs) (hf : Enters Try.prog f) :
    Calls Try.prog 86 #[v, .func (.func f) #[] caps] w fun e w' => e = .returned (.int .i64 (idxOf p xs)) ∧ Below w.heap.size w w' := by
  obtain ⟨a, c, rfl, hnc, hcm⟩ := hS.form
  have hm := hS.le
  have HS := Lib.hid hS
  have HP := Lib.hid hp
  clear hS hp
  unfold maxLen at hm
  go_enter Try.func86, Try.ntmps86
  go_wp2
  go_loopw [5, 8] (fun _ i wr => ∃ k : Nat, k ≤ xs.length ∧ i = .int .i64 k ∧ (∀ j (hj : j < xs.length), j < k → p xs[j] = false) ∧ Below w.heap.size w wr) (fun _ i _ => xs.length - (intOf i).toNat)
  case atStart => exact ⟨0, Nat.zero_le _, rfl, fun j _ hj => absurd hj (by omega), Below.refl _ _⟩
  case round =>
    obtain ⟨k, hk, rfl, hno, hbel⟩ := hrel
    have HN := Lib.hid hno
    clear hno
    by_cases hlt : k < xs.length
    · obtain ⟨b, o, rfl, hbl, hcell⟩ := (HS.out.stay hbel).at (by omega)
      have hck := hcell k _ (strs_get xs k hlt)
      clear hcell
      have hcall := HP.out xs[k] (List.getElem_mem hlt) wr hbel
      have he := hf (#[.string xs[k]] ++ caps) wr
      cases hpx : p xs[k]
      all_goals
        rw [hpx] at hcall
        have HX := Lib.hid hpx
        clear hpx
        go_wp2_with (refine Calls.mono hcall ?_; rintro e w1 ⟨rfl, hb1⟩)
      · refine ⟨⟨k + 1, by omega, by go_num, fun j hj hjk => ?_, bels hbel hbel.size hb1⟩, by simp [intOf]; omega⟩
        rcases Nat.lt_succ_iff_lt_or_eq.1 hjk with h | rfl
        · exact HN.out j hj h
        · exact HX.out
      · go_ret
        exact ⟨ret_int (idxOf_found hlt HX.out fun j hj => HN.out j (by omega) hj).symm, bel hbel hb1⟩
    · obtain rfl : k = xs.length := by omega
      go_wp2
      go_ret
      exact ⟨ret_int (idxOf_none fun j hj => HN.out j hj hj).symm, hbel⟩
theorem containsFuncS_any (v : Value) (xs : List ByteArray) (f : FuncId) (caps : Array Value) (p : ByteArray → Bool) (w : World) (hS : SlAt w v 1 xs.length (strs xs)) (hp : PredStr f caps w p xs) (hf : Enters Try.prog f) :
    Calls Try.prog 70 #[v, .func (.func f) #[] caps] w fun e w' => e = .returned (.bool (xs.any p)) ∧ Below w.heap.size w w' := by
  have hi := Lib.hid (idxOf_any p xs)
  go_enter Try.func70, Try.ntmps70
  go_wp2_with (go_at_call 86; refine (indexFuncS_any _ xs f caps p _ hS hp hf).mono ?_; rintro e w1 ⟨rfl, hb1⟩)
  go_ret
  exact ⟨ret_bool hi.out, hb1⟩
theorem right1_any (x : ByteArray) (w : World) :
    Calls Try.prog 82 #[.string x] w fun e w' => e = .returned (.bool (badSize x)) ∧ w = w' := by
  go_enter Try.func82, Try.ntmps82
  go_wp2
  go_ret
  exact ⟨rfl, rfl⟩
theorem right_any (v : Value) (xs : List ByteArray) (w : World) (hS : SlAt w v 1 xs.length (strs xs)) :
    Calls Try.prog 60 #[.agg #[v]] w fun e w' => e = .returned (.bool (rightD xs)) ∧ Below w.heap.size w w' := by
  obtain ⟨a, c, rfl, hnc, hcm⟩ := hS.form
  have HS := Lib.hid hS
  clear hS
  have hp : ∀ W, PredStr 82 #[] W badSize xs := fun W x _ W' _ => (right1_any x W').mono fun e w' ⟨he, hw⟩ => ⟨he, hw ▸ Below.refl _ _⟩
  have HP := Lib.hid hp
  clear hp
  have hen : Enters Try.prog 82 := enters_of Try.func82 (by kernel_rfl) rfl
  have HE := Lib.hid hen
  clear hen
  go_enter Try.func60, Try.ntmps60
  go_wp2_with (go_at_call 70; refine (containsFuncS_any _ xs _ _ badSize _ (HS.out.stay ((Below.refl _ _).alloc (Nat.le_refl _) _)) (HP.out _) HE.out).mono ?_; rintro e w1 ⟨rfl, hb1⟩)
  all_goals
    go_ret
    refine ⟨ret_bool ?_, by first | exact bel (bal (Below.refl _ _) _) (by assumption) | exact bal (Below.refl _ _) _⟩
    unfold rightD
    first
      | (rw [decide_eq_true (by omega), decide_eq_true (by omega)]; rfl)
      | (rw [decide_eq_true (by omega), decide_eq_false (by omega)]; rfl)
      | (rw [decide_eq_false (by omega)]; rfl)
theorem may_any (v : Value) (xs : List ByteArray) (at_ : Int) (w : World) (hS : SlAt w v 1 xs.length (strs xs)) :
    Calls Try.prog 80 #[.agg #[v], .int .i64 at_] w fun e w' => e = .returned (.int .i64 (mayD xs at_)) ∧ Below w.heap.size w w' := by
  obtain ⟨a, c, rfl, hnc, hcm⟩ := hS.form
  have HS := Lib.hid hS
  clear hS
  have hright := fun W (h : SlAt W (Value.slice a xs.length c) 1 xs.length (strs xs)) => right_any _ xs W h
  cases hr : rightD xs
  all_goals
    rw [hr] at hright
    have HR := Lib.hid hright
    have HV := Lib.hid hr
    clear hright hr
    go_enter Try.func80, Try.ntmps80
    go_wp2_with (go_at_call 60; refine (HR.out _ (HS.out.stay (bal (Below.refl _ _) _))).mono ?_; rintro e w1 ⟨rfl, hb1⟩; obtain ⟨hc1, hf1⟩ := bcell hb1)
    all_goals
      go_ret
      refine ⟨ret_int ?_, bel (bal (Below.refl _ _) _) hb1⟩
      first
        | exact (mayD_no HV.out _).symm
        | exact (mayD_in HV.out (by omega) (by omega)).symm
        | exact (mayD_out HV.out (by omega)).symm
end Go.Proofs.Ytopaddpclipnjaa
namespace Go.Proofs.Ytopaddpclipnjaa
open Go.RowKit
def u8 (x : Int) : UInt8 := UInt8.ofNat (x % 256).toNat
theorem u8_toNat (x : Int) : ((u8 x).toNat : Int) = x % 256 := by
  unfold u8
  rw [UInt8.toNat_ofNat']
  omega
def zeros (n : Nat) : List UInt8 := List.replicate n 0
theorem zeros_len (n : Nat) : (zeros n).length = n := by simp [zeros]
theorem lit_src (W : World) (arr : Array Value) (e : TypeId) (cells : List Value) (h : cells = arr.toList) : ∀ j v, cells[j]? = some v → (W.alloc (.cells arr e)).cell? ((⟨W.heap.size, 0, none⟩ : Addr).add j) = some v := by
  subst h
  intro j v hv
  have hadd : (⟨W.heap.size, 0, none⟩ : Addr).add j = ⟨W.heap.size, j, none⟩ := by unfold Addr.add; split <;> simp_all
  rw [hadd]
  exact blk_cell (blk_new W _) (by simpa using hv)
def Bts (W : World) (g : Nat) (t : TypeId) (l : List UInt8) : Prop := W.heap[g]? = some (.cells (Lib.byteCells l).toArray t (0, 0))
def bytesOf (s : ByteArray) : List UInt8 := s.data.toList
theorem results_tmp4 {fn : Func} {t u v x : Tmp} (h : fn.results = #[.tmp t, .tmp u, .tmp v, .tmp x]) (tmps : Array Value) (P : Program) (w : World) :
    (results fn tmps).run P w = .ok (.tuple #[tmps.getD t undef, tmps.getD u undef, tmps.getD v undef, tmps.getD x undef]) w := by
  simp [results, h]
theorem strOfNums_eq' (xs : List Int) : strOfNums xs = ⟨(xs.map fun x => UInt8.ofNat x.toNat).toArray⟩ := rfl
theorem splice_mid {α : Type} (A B C B' : List α) (n : Nat) (hA : A.length = n) (h : B'.length = B.length) : splice (A ++ (B ++ C)) n B' = A ++ (B' ++ C) := by
  subst hA
  unfold splice
  rw [List.take_left' rfl, h]
  congr 2
  rw [← List.drop_drop, List.drop_left' rfl, List.drop_left' rfl]
section
variable {P : Program} {ops : Array Oper} {rest : List Oper} {o : Oper} {a : Act} {Q : Exit → Act → World → Prop} {w w0 : World} {g : Nat} {t : TypeId} {l : List UInt8}
theorem gate (N : Tmp) (_ : o.dst = some N) (h : wpList P ops Q (o :: rest) a w) : wpList P ops Q (o :: rest) a w := h
theorem byteCells_splice (l : List UInt8) (off : Nat) (m : List UInt8) : splice (Lib.byteCells l) off (Lib.byteCells m) = Lib.byteCells (splice l off m) := by
  simp [splice, Lib.byteCells, List.map_take, List.map_drop]
theorem byteCells_get (l : List UInt8) (j : Nat) : (Lib.byteCells l)[j]? = (l[j]?).map fun b => Value.int .u8 b.toNat := by simp [Lib.byteCells]
theorem byteCells_one (l : List UInt8) : ∀ v ∈ Lib.byteCells l, v.oneCell' = true := by
  intro v hv
  obtain ⟨b, _, rfl⟩ := List.mem_map.1 hv
  rfl
theorem Bts.cell (h : Bts w g t l) {j : Nat} (hj : j < l.length) : w.cell? ⟨g, j, none⟩ = some (.int .u8 (l[j]).toNat) :=
  blk_cell h (by simp [Lib.byteCells, hj])
theorem name4 {W : World} {g : Nat} {t : TypeId} {L M : List UInt8} (h : Bts W g t L) (hL : M = L) : Hid (Bts W g t M) := by
  rw [hL]
  exact h
theorem Bts.drew (h : Bts w g t l) : Bts w.drew g t l := h
theorem Bts.below {W' : World} (h : Bts w g t l) (hb : Below w.heap.size w W') : Bts W' g t l := blk_below hb (blk_lt h) h
theorem Bts.lt (h : Bts w g t l) : g < w.heap.size := blk_lt h
theorem ev_alloc (N : Tmp) (hN : o.dst = some N) (hg : o.guard = none) (n : Nat) (ho : o.op = .alloc t)
    (hrun : ∀ W : World, (Instr.alloc t true (.tuple #[])).run P W = .ok (.pointer (some ⟨W.heap.size, 0, none⟩)) (W.alloc (.cells (Lib.byteCells (zeros n)).toArray t)))
    (h : ∀ W g, w.heap.size ≤ g → g < W.heap.size → Hid (Bts W g t (zeros n)) → Below w.heap.size w W → wpList P ops Q rest (a.put (some N) (.pointer (some ⟨g, 0, none⟩))) W) : wpList P ops Q (o :: rest) a w := by
  refine wpList_plain hg fun K hK => ?_
  unfold Oper.wp
  simp only [execOp, ho]
  have hr := hrun w
  simp [hr, Result.andThen]
  rw [Oper.upon_value, hN]
  exact hK _ _ (h _ _ (Nat.le_refl _) (by simp) (blk_new _ _) (bal (Below.refl _ _) _))
theorem grown_setRow (w : World) (g : Nat) (cs : Array Value) : w.grownBy (w.setRow g cs) (some g) :=
  ⟨rfl, rfl, rfl, by simp [World.setRow], fun k hk hne => setRow_other w g k cs (by intro e; exact hne (by rw [e]))⟩
theorem grown_below {B : Nat} {w0 w w' : World} (hb : Below B w0 w) (hg : w.grownBy w' (some g)) (hB : B ≤ w.heap.size) (hBg : B ≤ g) : Below B w0 w' :=
  hb.grown hg hB (fun k hk => by injection hk with e; omega)
theorem run_copy_str (dT sT ty elem : TypeId) (hu : P.underlying dT = some (.slice elem)) (hs : (P.info? elem).map (·.size) = some 1) (off dLen dCap : Nat) (s : ByteArray) (hb : Bts w g t l) (hfit : off + min s.size dLen ≤ l.length) :
    (Builtin.copy_ #[dT, sT] ty #[.slice (some ⟨g, off, none⟩) dLen dCap, .string s]).run P w =
      .ok (goInt (min s.size dLen)) (w.setRow g (Lib.byteCells (splice l off ((bytesOf s).take (min s.size dLen)))).toArray) := by
  have hlen : (Lib.byteCells ((bytesOf s).take (min s.size dLen))).length = min s.size dLen := by
    rw [Lib.byteCells_length, List.length_take]
    unfold bytesOf
    rw [len_data]
    omega
  have hst := run_storeCells_at P g off t (Lib.byteCells ((bytesOf s).take (min s.size dLen))) 0 (Lib.byteCells l).toArray w hb (by simp only [Nat.add_zero, List.size_toArray]; rw [hlen, Lib.byteCells_length]; exact hfit) (byteCells_one _)
  have hcells : ((s.extract 0 (min s.size dLen)).data.map fun b => Value.int .u8 b.toNat).toList = Lib.byteCells ((bytesOf s).take (min s.size dLen)) := by
    simp [Lib.byteCells, bytesOf, ByteArray.data_extract]
  cases hq : P.info? elem with
  | none => simp [hq] at hs
  | some i =>
    have hi : i.size = 1 := by simpa [hq] using hs
    simp only [Builtin.copy_]
    simp [run_underlying hu, Builtin.lenOf, Builtin.firstCells, sizeOf, typeInfo, hq, hi]
    have e2 : Nat.min s.size dLen = min s.size dLen := rfl
    rw [e2]
    have e3 : List.take (min s.size dLen) (List.map (fun b => Value.int IntKind.u8 ↑b.toNat) s.data.toList) = Lib.byteCells ((bytesOf s).take (min s.size dLen)) := by
      simp [Lib.byteCells, bytesOf, List.map_take]
    rw [e3, hst, Result.andThen_ok, ← byteCells_splice]
    congr 1
    · exact congrArg goInt (by omega)
    · unfold splice
      rw [List.append_assoc]
      rfl
theorem ev_copy_str (hgd : o.guard = none) (d s : Operand) (dT sT : TypeId) (ho : o.op = .call { callee := .builtin .copy, args := #[d, s], argTypes := #[dT, sT] }) (elem : TypeId) (hu : P.underlying dT = some (.slice elem)) (hs : (P.info? elem).map (·.size) = some 1)
    (off dLen dCap : Nat) (x : ByteArray) (hd : a.eval d = .slice (some ⟨g, off, none⟩) dLen dCap) (hx : a.eval s = .string x) (hb : Bts w g t l) (hfit : off + min x.size dLen ≤ l.length)
    (h : ∀ W, Hid (Bts W g t (splice l off ((bytesOf x).take (min x.size dLen)))) → w.grownBy W (some g) → wpList P ops Q rest (a.put o.dst (goInt (min x.size dLen))) W) : wpList P ops Q (o :: rest) a w := by
  refine wpList_plain hgd fun K hK => ?_
  have hrun := run_copy_str (P := P) dT sT o.type elem hu hs off dLen dCap x hb hfit
  unfold Oper.wp
  simp [execOp, ho, resolve, invoke, builtin, hd, hx, hrun, Result.andThen]
  exact hK _ _ (h _ (setRow_heap w g _ _ t _ hb) (grown_setRow w g _))
theorem st_copy_str {K : Act → World → Prop} {E : Prop} (hgd : o.guard = none) (d s : Operand) (dT sT : TypeId) (ho : o.op = .call { callee := .builtin .copy, args := #[d, s], argTypes := #[dT, sT] }) (elem : TypeId) (hu : P.underlying dT = some (.slice elem)) (hs : (P.info? elem).map (·.size) = some 1)
    (off dLen dCap : Nat) (x : ByteArray) (hd : a.eval d = .slice (some ⟨g, off, none⟩) dLen dCap) (hx : a.eval s = .string x) (hb : Bts w g t l) (hfit : off + min x.size dLen ≤ l.length)
    (h : ∀ W, Hid (Bts W g t (splice l off ((bytesOf x).take (min x.size dLen)))) → w.grownBy W (some g) → K (a.put o.dst (goInt (min x.size dLen))) W) : if Region.wanted o (yielded ops a.tmps) = true then Oper.wp P o a w K Q else E := by
  have hw : Region.wanted o (yielded ops a.tmps) = true := by simp [Region.wanted, hgd]
  rw [if_pos hw]
  have hrun := run_copy_str (P := P) dT sT o.type elem hu hs off dLen dCap x hb hfit
  unfold Oper.wp
  simp [execOp, ho, resolve, invoke, builtin, hd, hx, hrun, Result.andThen]
  exact h _ (setRow_heap w g _ _ t _ hb) (grown_setRow w g _)
theorem run_copy_bytes (dT sT ty elem : TypeId) (hu : P.underlying dT = some (.slice elem)) (hs : (P.info? elem).map (·.size) = some 1) (off dLen dCap : Nat) (ad : Addr) (sLen sCap : Nat) (cs : List UInt8) (hn : cs.length = Nat.min sLen dLen) (hb : Bts w g t l)
    (hsrc : ∀ j v, (Lib.byteCells cs)[j]? = some v → w.cell? (ad.add j) = some v) (hfit : off + cs.length ≤ l.length) :
    (Builtin.copy_ #[dT, sT] ty #[.slice (some ⟨g, off, none⟩) dLen dCap, .slice (some ad) sLen sCap]).run P w = .ok (goInt cs.length) (w.setRow g (Lib.byteCells (splice l off cs)).toArray) := by
  have := run_copy_row (P := P) w dT sT ty elem g off dLen dCap ad sLen sCap (Lib.byteCells l).toArray t (Lib.byteCells cs) hu hs hb (by rw [Lib.byteCells_length]; exact hn) hsrc (by rw [List.size_toArray, Lib.byteCells_length, Lib.byteCells_length]; exact hfit) (byteCells_one _)
  rw [this, ← byteCells_splice, Lib.byteCells_length]
  unfold splice
  rw [List.append_assoc, Lib.byteCells_length]
theorem st_copy_bytes {K : Act → World → Prop} {E : Prop} (hgd : o.guard = none) (d s : Operand) (dT sT : TypeId) (ho : o.op = .call { callee := .builtin .copy, args := #[d, s], argTypes := #[dT, sT] }) (elem : TypeId) (hu : P.underlying dT = some (.slice elem)) (hs : (P.info? elem).map (·.size) = some 1)
    (off dLen dCap : Nat) (ad : Addr) (sLen sCap : Nat) (cs : List UInt8) (hd : a.eval d = .slice (some ⟨g, off, none⟩) dLen dCap) (hx : a.eval s = .slice (some ad) sLen sCap) (hn : cs.length = Nat.min sLen dLen) (hb : Bts w g t l)
    (hsrc : ∀ j v, (Lib.byteCells cs)[j]? = some v → w.cell? (ad.add j) = some v) (hfit : off + cs.length ≤ l.length)
    (h : ∀ W, Hid (Bts W g t (splice l off cs)) → w.grownBy W (some g) → K (a.put o.dst (goInt cs.length)) W) : if Region.wanted o (yielded ops a.tmps) = true then Oper.wp P o a w K Q else E := by
  have hw : Region.wanted o (yielded ops a.tmps) = true := by simp [Region.wanted, hgd]
  rw [if_pos hw]
  have hrun := run_copy_bytes (P := P) dT sT o.type elem hu hs off dLen dCap ad sLen sCap cs hn hb hsrc hfit
  unfold Oper.wp
  simp [execOp, ho, resolve, invoke, builtin, hd, hx, hrun, Result.andThen]
  exact h _ (setRow_heap w g _ _ t _ hb) (grown_setRow w g _)
theorem Bts.src (h : Bts w g t l) (off : Nat) (cs : List UInt8) (hcs : ∀ j, j < cs.length → l[off + j]? = cs[j]?) : ∀ j v, (Lib.byteCells cs)[j]? = some v → w.cell? ((⟨g, off, none⟩ : Addr).add j) = some v := by
  intro j v hv
  rw [byteCells_get] at hv
  obtain ⟨b, hb, rfl⟩ := Option.map_eq_some_iff.1 hv
  have hj : j < cs.length := (List.getElem?_eq_some_iff.1 hb).1
  have hl := hcs j hj
  rw [hb] at hl
  have hadd : (⟨g, off, none⟩ : Addr).add j = ⟨g, off + j, none⟩ := by unfold Addr.add; split <;> simp_all
  rw [hadd]
  exact blk_cell h (by rw [List.getElem?_toArray, byteCells_get, hl]; rfl)
theorem run_append_in (T ty e : TypeId) (i : TypeInfo) (hu : P.underlying T = some (.slice e)) (hi : P.info? e = some i) (hs : i.size = 1) (off n cap : Nat) (ad : Addr) (cs : List UInt8) (c : Nat) (hb : Bts w g t l)
    (hsrc : ∀ j v, (Lib.byteCells cs)[j]? = some v → w.cell? (ad.add j) = some v) (hroom : n + cs.length ≤ cap) (hfit : off + n + cs.length ≤ l.length) :
    (Builtin.append_ #[T, T] ty #[.slice (some ⟨g, off, none⟩) n cap, .slice (some ad) cs.length c]).run P w =
      .ok (.slice (some ⟨g, off, none⟩) (n + cs.length) cap) (w.setRow g (Lib.byteCells (splice l (off + n) cs)).toArray) := by
  have hl := run_loadCells_list (P := P) w ad (Lib.byteCells cs) hsrc
  rw [Lib.byteCells_length] at hl
  have hst := run_storeCells_at P g (off + n) t (Lib.byteCells cs) 0 (Lib.byteCells l).toArray w hb (by simp only [Nat.add_zero, List.size_toArray]; rw [Lib.byteCells_length, Lib.byteCells_length]; exact hfit) (byteCells_one _)
  have hadd : (⟨g, off, none⟩ : Addr).add n = ⟨g, off + n, none⟩ := by unfold Addr.add; split <;> simp_all
  simp [Builtin.append_, run_underlying hu, Builtin.lenOf, Builtin.firstCells, sizeOf, typeInfo, hi, hs, hl, hroom, hadd, hst]
  rw [← byteCells_splice]
  rfl
theorem ev_append_in (hgd : o.guard = none) (s x : Operand) (T e : TypeId) (ho : o.op = .call { callee := .builtin .append, args := #[s, x], argTypes := #[T, T] }) (i : TypeInfo) (hu : P.underlying T = some (.slice e)) (hi : P.info? e = some i) (hs : i.size = 1)
    (off n cap : Nat) (ad : Addr) (cs : List UInt8) (m c : Nat) (hm : m = cs.length) (hd : a.eval s = .slice (some ⟨g, off, none⟩) n cap) (hx : a.eval x = .slice (some ad) m c) (hb : Bts w g t l)
    (hsrc : ∀ j v, (Lib.byteCells cs)[j]? = some v → w.cell? (ad.add j) = some v) (hroom : n + cs.length ≤ cap) (hfit : off + n + cs.length ≤ l.length)
    (h : ∀ W, Hid (Bts W g t (splice l (off + n) cs)) → w.grownBy W (some g) → wpList P ops Q rest (a.put o.dst (.slice (some ⟨g, off, none⟩) (n + m) cap)) W) : wpList P ops Q (o :: rest) a w := by
  subst hm
  refine wpList_plain hgd fun K hK => ?_
  have hrun := run_append_in (P := P) T o.type e i hu hi hs off n cap ad cs c hb hsrc hroom hfit
  unfold Oper.wp
  simp [execOp, ho, resolve, invoke, builtin, hd, hx, hrun, Result.andThen]
  exact hK _ _ (h _ (setRow_heap w g _ _ t _ hb) (grown_setRow w g _))
theorem run_text {src dst e : TypeId} (hs : P.underlying src = some (.slice e)) (he : P.underlying e = some (.int .u8)) (hd : P.underlying dst = some .string) (hb : Bts w g t l) (off n cap : Nat) (hfit : off + n ≤ l.length) :
    (convert src dst (.slice (some ⟨g, off, none⟩) n cap)).run P w = .ok (.string ⟨((l.drop off).take n).toArray⟩) w := by
  have hlen : ((l.drop off).take n).length = n := by rw [List.length_take, List.length_drop]; omega
  have := run_convert_bytes_arg (P := P) w src e hs he g off n cap (((l.drop off).take n).map fun b => (b.toNat : Int)) (by rw [List.length_map, hlen]) (fun i hi => by
    rw [hb.cell (show off + i < l.length by omega)]
    rw [List.getD_eq_getElem?_getD, List.getElem?_map, List.getElem?_take, if_pos hi, List.getElem?_drop, List.getElem?_eq_getElem (show off + i < l.length by omega)]
    rfl) dst hd
  have e : ((fun x : Int => UInt8.ofNat x.toNat) ∘ fun b : UInt8 => (b.toNat : Int)) = id := by
    funext b
    simp
  rw [this, strOfNums_eq', List.map_map, e, List.map_id]
end
end Go.Proofs.Ytopaddpclipnjaa
namespace Go.Proofs
open Go.Shelf
def Try.lays212_ren : Go.Shelf.Ren := ⟨fun | 212 => 73 | 263 => 87 | 264 => 88 | n => n, fun | 46 => 98 | 51 => 118 | 146 => 119 | 53 => 115 | 148 => 121 | n => n, fun | n => n⟩
theorem Try.lays212 : Go.Proofs.Lays.n212 Try.prog Try.lays212_ren := {
  mixed := by kernel_rfl
  f212 := Try.func73.trans (congrArg some (by kernel_rfl))
  f263 := Try.func87.trans (congrArg some (by kernel_rfl))
  f264 := Try.func88.trans (congrArg some (by kernel_rfl))
  t46 := Try.underlying98
  a46 := Try.isAgg98
  z46 := Try.sizeOf98
  v46 := Try.zeroValue98
  t51 := Try.underlying118
  a51 := Try.isAgg118
  z51 := Try.sizeOf118
  v51 := Try.zeroValue118
  t53 := Try.underlying115
  a53 := Try.isAgg115
  z53 := Try.sizeOf115
  v53 := Try.zeroValue115
  t146 := Try.underlying119
  a146 := Try.isAgg119
  z146 := Try.sizeOf119
  v146 := Try.zeroValue119
  t148 := Try.underlying121
  a148 := Try.isAgg121
  z148 := Try.sizeOf121
  v148 := Try.zeroValue121 }
open Go.RowKit Go.Lib in
theorem Try.bits_Mul (x y : Nat) (hx : x < 18446744073709551616) (hy : y < 18446744073709551616) (w : World) :
    Calls Try.prog 73 #[.int .u64 x, .int .u64 y] w fun e w' => e = .returned (.tuple #[.int .u64 ((x * y / 18446744073709551616 : Nat) : Int), .int .u64 ((x * y % 18446744073709551616 : Nat) : Int)]) ∧ w' = w := Any.bits_Mul Try.lays212 x y hx hy w
def Try.lays105_ren : Go.Shelf.Ren := ⟨fun | 105 => 55 | 212 => 73 | 99 => 74 | 165 => 75 | 166 => 76 | 170 => 77 | 169 => 78 | 263 => 87 | 264 => 88 | 206 => 89 | 240 => 90 | 241 => 91 | 276 => 94 | 277 => 95 | n => n, fun | 9 => 9 | 3 => 3 | 4 => 4 | 20 => 20 | 0 => 0 | 46 => 98 | 109 => 99 | 5 => 5 | 72 => 104 | 76 => 108 | 51 => 118 | 146 => 119 | 53 => 115 | 148 => 121 | 70 => 102 | 37 => 86 | 75 => 107 | 127 => 123 | 164 => 126 | 80 => 111 | n => n, fun | n => n⟩
theorem Try.lays105 : Go.Proofs.Lays.n105 Try.prog Try.lays105_ren := {
  mixed := by kernel_rfl
  f99 := Try.func74.trans (congrArg some (by kernel_rfl))
  f105 := Try.func55.trans (congrArg some (by kernel_rfl))
  f165 := Try.func75.trans (congrArg some (by kernel_rfl))
  f166 := Try.func76.trans (congrArg some (by kernel_rfl))
  f169 := Try.func78.trans (congrArg some (by kernel_rfl))
  f170 := Try.func77.trans (congrArg some (by kernel_rfl))
  f206 := Try.func89.trans (congrArg some (by kernel_rfl))
  f212 := Try.func73.trans (congrArg some (by kernel_rfl))
  f240 := Try.func90.trans (congrArg some (by kernel_rfl))
  f241 := Try.func91.trans (congrArg some (by kernel_rfl))
  f263 := Try.func87.trans (congrArg some (by kernel_rfl))
  f264 := Try.func88.trans (congrArg some (by kernel_rfl))
  f276 := Try.func94.trans (congrArg some (by kernel_rfl))
  f277 := Try.func95.trans (congrArg some (by kernel_rfl))
  t0 := Try.underlying0
  a0 := Try.isAgg0
  z0 := Try.sizeOf0
  v0 := Try.zeroValue0
  t3 := Try.underlying3
  a3 := Try.isAgg3
  z3 := Try.sizeOf3
  v3 := Try.zeroValue3
  t4 := Try.underlying4
  a4 := Try.isAgg4
  z4 := Try.sizeOf4
  v4 := Try.zeroValue4
  t5 := Try.underlying5
  a5 := Try.isAgg5
  z5 := Try.sizeOf5
  v5 := Try.zeroValue5
  t9 := Try.underlying9
  a9 := Try.isAgg9
  z9 := Try.sizeOf9
  v9 := Try.zeroValue9
  t20 := Try.underlying20
  a20 := Try.isAgg20
  z20 := Try.sizeOf20
  v20 := Try.zeroValue20
  t37 := Try.underlying86
  a37 := Try.isAgg86
  z37 := Try.sizeOf86
  v37 := Try.zeroValue86
  t46 := Try.underlying98
  a46 := Try.isAgg98
  z46 := Try.sizeOf98
  v46 := Try.zeroValue98
  t51 := Try.underlying118
  a51 := Try.isAgg118
  z51 := Try.sizeOf118
  v51 := Try.zeroValue118
  t53 := Try.underlying115
  a53 := Try.isAgg115
  z53 := Try.sizeOf115
  v53 := Try.zeroValue115
  t70 := Try.underlying102
  a70 := Try.isAgg102
  z70 := Try.sizeOf102
  v70 := Try.zeroValue102
  t72 := Try.underlying104
  a72 := Try.isAgg104
  z72 := Try.sizeOf104
  v72 := Try.zeroValue104
  t75 := Try.underlying107
  a75 := Try.isAgg107
  z75 := Try.sizeOf107
  v75 := Try.zeroValue107
  t76 := Try.underlying108
  a76 := Try.isAgg108
  z76 := Try.sizeOf108
  v76 := Try.zeroValue108
  t109 := Try.underlying99
  a109 := Try.isAgg99
  z109 := Try.sizeOf99
  v109 := Try.zeroValue99
  t127 := Try.underlying123
  a127 := Try.isAgg123
  z127 := Try.sizeOf123
  v127 := Try.zeroValue123
  t146 := Try.underlying119
  a146 := Try.isAgg119
  z146 := Try.sizeOf119
  v146 := Try.zeroValue119
  t148 := Try.underlying121
  a148 := Try.isAgg121
  z148 := Try.sizeOf121
  v148 := Try.zeroValue121
  t164 := Try.underlying126
  a164 := Try.isAgg126
  z164 := Try.sizeOf126
  v164 := Try.zeroValue126 }
theorem Try.Builder_Extra_105 : Builder.Extra Try.prog Try.lays105_ren := {
  sizeBuilder := by kernel_rfl
  liesBuilder := by kernel_rfl
  t5 := Try.underlying5
  a5 := Try.isAgg5
  z5 := Try.sizeOf5
  v5 := Try.zeroValue5
  infoByte := by kernel_rfl
  cellsByte := by kernel_rfl
  sizeByte := by kernel_rfl
  neB5 := by decide }
open Go.RowKit Go.Lib in
theorem Try.strings_Repeat (s : ByteArray) (c : Nat) (w : World) (hc : c ≤ 9223372036854775807) (hlen : s.size * c ≤ 140737488355328) :
    Calls Try.prog 55 #[.string s, .int .i64 c] w fun e w' => e = .returned (.string ⟨(Lib.repeatL s.data.toList c).toArray⟩) ∧ Below w.heap.size w w' := Any.strings_Repeat Try.lays105 Try.Builder_Extra_105 s c w hc hlen
def Try.laysNm216_ren : Go.Shelf.Ren := ⟨fun | 16 => 81 | n => n, fun | 24 => 22 | 9 => 9 | 4 => 4 | n => n, fun | n => n⟩
theorem Try.laysNm216 : Go.Proofs.Lays2.n16 Try.prog Try.laysNm216_ren := {
  mixed := by kernel_rfl
  f16 := Try.func81.trans (congrArg some (by kernel_rfl))
  t4 := Try.underlying4
  a4 := Try.isAgg4
  z4 := Try.sizeOf4
  v4 := Try.zeroValue4
  t9 := Try.underlying9
  a9 := Try.isAgg9
  z9 := Try.sizeOf9
  v9 := Try.zeroValue9
  t24 := Try.underlying22
  a24 := Try.isAgg22
  z24 := Try.sizeOf22
  v24 := Try.zeroValue22
  i9 := by kernel_rfl }
open Go.RowKit Go.Lib in
theorem Try.slices_Clone_string (b off n c : Nat) (zs : List ByteArray) (w : World) (hz : n ≤ zs.length) (hbig : n * 16 ≤ 140737488355328) (hc : ∀ j, j < zs.length → w.cell? ⟨b, off + j, none⟩ = some (.string (zs.getD j ByteArray.empty))) :
    Calls Try.prog 81 #[.slice (some ⟨b, off, none⟩) n c] w fun e w' => ∃ v', e = .returned v' ∧ w'.ownsRow w.heap.size 9 1 v' n ((zs.take n).map (Value.string)) ∧ v' ≠ .slice none 0 0 ∧ Below w.heap.size w w' := Any.slices_Clone_string Try.laysNm216 b off n c zs w hz hbig hc
end Go.Proofs
namespace Go.Proofs.Ytopaddpclipnjaa
open Go.RowKit
def emptyS : ByteArray := ⟨#[]⟩
def fillR (n k : Nat) (z : ByteArray) : List Value := strs (List.replicate k z ++ List.replicate (n - k) emptyS)
theorem fillR_len (n k : Nat) (z : ByteArray) (h : k ≤ n) : (fillR n k z).length = n := by simp [fillR, strs]; omega
theorem strs_one (l : List ByteArray) : ∀ v ∈ strs l, v.oneCell' = true := by
  intro v hv
  obtain ⟨b, _, rfl⟩ := List.mem_map.1 hv
  rfl
theorem fillR_splice (n k j : Nat) (z : ByteArray) (h : k + j ≤ n) : splice (fillR n k z) k (strs (List.replicate j z)) = fillR n (k + j) z := by
  unfold fillR strs
  rw [← List.map_append.symm, show n - k = j + (n - (k + j)) by omega, ← List.replicate_append_replicate, List.map_append, List.map_append, splice_mid _ _ _ _ k (by simp) (by simp), ← List.map_append, ← List.map_append, ← List.append_assoc, List.replicate_append_replicate, List.map_append]
theorem make_strs (n : Nat) (hn : n ≤ 1000) (W : World) : (Instr.makeSlice 22 (.int .i64 (n : Int)) (.int .i64 (n : Int))).run Try.prog W = .ok (.slice (some ⟨W.heap.size, 0, none⟩) n n) (W.alloc (.cells (fillR n 0 emptyS).toArray 9)) := by
  have := run_make_row' (P := Try.prog) 22 9 (.string ⟨#[]⟩) 16 Try.underlying22 (by kernel_rfl) rfl .i64 .i64 n (by omega) (by omega) W
  rw [this]
  have e : madeCells #[Value.string ⟨#[]⟩] n = (fillR n 0 emptyS).toArray := by
    apply Array.ext'
    rw [toList_madeCells_one]
    simp [fillR, strs, emptyS]
  rw [e]
theorem fillR_zero (n : Nat) (z : ByteArray) : fillR n 0 emptyS = fillR n 0 z := by simp [fillR]
set_option maxHeartbeats 400000 in
theorem sRepeat_any (z : ByteArray) (n g : Nat) (w : World) (hk : w.heap[g]? = some (.cells #[.string z] 9 (0, 0))) (h1 : 1 ≤ n) (hn : n ≤ 1000) :
    Calls Try.prog 54 #[.slice (some ⟨g, 0, none⟩) 1 1, .int .i64 n] w fun e w' => ∃ v, e = .returned v ∧ SlAt w' v 1 n (strs (List.replicate n z)) ∧ FreshV w.heap.size v ∧ Below w.heap.size w w' := by
  have hmk := make_strs n hn
  have hmul := fun W => Try.bits_Mul 1 n (by omega) (by omega) W
  rw [Nat.one_mul, show n / 18446744073709551616 = 0 from Nat.div_eq_of_lt (by omega), Nat.mod_eq_of_lt (by omega)] at hmul
  have HM := Lib.hid hmul
  clear hmul
  have q1 : (n : Int) % 18446744073709551616 = n := by omega
  have HN : Hid ((strs (List.replicate 1 z)).length = Nat.min 1 n) := by
    show 1 = min 1 n
    omega
  have HSRC : Hid (∀ j v, (strs (List.replicate 1 z))[j]? = some v → (w.alloc (.cells (fillR n 0 emptyS).toArray 9)).cell? ((⟨g, 0, none⟩ : Addr).add j) = some v) := by
    intro j v hv
    match j with
    | 0 =>
      have e : Value.string z = v := by simpa [strs] using hv
      subst e
      exact blk_cell (blk_alloc _ hk) rfl
    | j + 1 => simp [strs] at hv
  have HFIT : Hid (0 + (strs (List.replicate 1 z)).length ≤ (fillR n 0 emptyS).length) := by
    show 0 + 1 ≤ _
    rw [fillR_len _ _ _ (by omega)]
    omega
  have q2 : decide ((9223372036854775807 : Int) < n) = false := by simp; omega
  have q3 : decide ((n : Int) < 0) = false := by simp
  have q4 : (strs [z]).length = 1 := rfl
  go_enter Try.func54, Try.ntmps54
  go_wp2_with (first
    | (go_at_call 73; refine (HM.out _).mono ?_; rintro e w' ⟨rfl, hw'⟩; replace hw' := hw'.symm; subst hw')
    | ((with_reducible refine gate 33 rfl ?_); refine wpList_copy_splice rfl (.tmp 31) (.tmp 32) 22 22 rfl 9 Try.underlying22 (by kernel_rfl) (some ⟨w.heap.size, 0, none⟩) (some ⟨g, 0, none⟩) n n 1 1 rfl rfl w.heap.size 0 (fillR n 0 emptyS) 9 (blk_new w _) (strs (List.replicate 1 z)) HN.out (fun _ => ⟨rfl, _, rfl, HSRC.out⟩) HFIT.out (strs_one _) w.heap.size w (bal (Below.refl _ _) _) (Nat.le_refl _) ?_; intro w2 HG2 hb2))
  have HG3 : Hid (w2.heap[w.heap.size]? = some (.cells (fillR n 1 z).toArray 9 (0, 0))) := by
    have h := HG2.out
    rw [fillR_zero n z, fillR_splice n 0 1 z (by omega)] at h
    exact h
  clear HG2 hmk HN HFIT HSRC
  go_loopw [8] (fun s8 wr => ∃ k : Nat, 1 ≤ k ∧ k ≤ n ∧ s8 = .int .i64 k ∧ Hid (wr.heap[w.heap.size]? = some (.cells (fillR n k z).toArray 9 (0, 0))) ∧ Below w.heap.size w wr) (fun s8 _ => n - (intOf s8).toNat)
  case atStart => exact ⟨1, by omega, by omega, rfl, HG3, hb2⟩
  case round =>
    obtain ⟨k, hk1, hkn, rfl, HG, hbel⟩ := hrel
    by_cases hlt : k < n
    · obtain ⟨j, hj⟩ : ∃ j, j = min k (n - k) := ⟨_, rfl⟩
      have hjk : j ≤ k := by rw [hj]; exact Nat.min_le_left _ _
      have hjn : j ≤ n - k := by rw [hj]; exact Nat.min_le_right _ _
      have HN : Hid ((strs (List.replicate j z)).length = Nat.min k (n - k)) := by
        show _ = min k (n - k)
        simp [strs, hj]
      have HSRC : Hid (∀ i v, (strs (List.replicate j z))[i]? = some v → wr.drew.cell? ((⟨w.heap.size, 0, none⟩ : Addr).add i) = some v) := by
        intro i v hv
        have hadd : (⟨w.heap.size, 0, none⟩ : Addr).add i = ⟨w.heap.size, i, none⟩ := by unfold Addr.add; split <;> simp_all
        rw [hadd]
        refine blk_cell (W := wr.drew) HG.out ?_
        have hij : i < j := by
          have := (List.getElem?_eq_some_iff.1 hv).1
          simpa [strs] using this
        have hv' : v = Value.string z := by simpa [strs, hij] using hv.symm
        rw [hv', List.getElem?_toArray]
        unfold fillR strs
        rw [List.getElem?_map, List.getElem?_append_left (by rw [List.length_replicate]; omega), List.getElem?_replicate, if_pos (by omega)]
        rfl
      have HFIT : Hid (k + (strs (List.replicate j z)).length ≤ (fillR n k z).length) := by
        show _ ≤ _
        rw [fillR_len _ _ _ hkn, strs_len, List.length_replicate]
        omega
      have hne : ¬ n = k := by omega
      have hne' : ¬ k = n := by omega
      have HJ := Lib.hid hj
      clear hj
      have hl : (strs (List.replicate j z)).length = j := by rw [strs_len, List.length_replicate]
      have hwr : IntKind.i64.wrap ((k : Int) + j) = ((k + j : Nat) : Int) := by rw [IntKind.wrap_i64]; omega
      have HGd : Hid (wr.drew.heap[w.heap.size]? = some (.cells (fillR n k z).toArray 9 (0, 0))) := HG.out
      have HZ : Hid ((Try.prog.info? 9).map (·.size) = some 1) := by
        show (Try.prog.info? 9).map (·.size) = some 1
        kernel_rfl
      go_wp2_with fail
      go_region_law (refine step_copy_splice rfl (.tmp 41) (.tmp 44) 22 22 rfl 9 Try.underlying22 HZ.out (some ⟨w.heap.size, k, none⟩) (some ⟨w.heap.size, 0, none⟩) (n - k) (n - k) k n (by go_simp) (by go_simp) w.heap.size k (fillR n k z) 9 HGd.out (strs (List.replicate j z)) HN.out (fun _ => ⟨rfl, _, rfl, HSRC.out⟩) HFIT.out (strs_one _) w.heap.size w hbel.drew (Nat.le_refl _) ?_; intro w3 HG4 hb4)
      simp only [Act.put, List.setIfInBounds_toArray, List.set_cons_succ, List.set_cons_zero, List.getElem?_toArray, List.getElem?_cons_succ, List.getElem?_cons_zero, Option.bind_some, List.getElem_toArray, List.getElem_cons_succ, List.getElem_cons_zero]
      go_wp2
      go_roundw
      case rel =>
        refine ⟨k + j, by omega, by omega, ?_, ?_, hb4⟩
        · rfl
        · have h := HG4.out
          rw [fillR_splice n k j z (by omega)] at h
          exact h
      case measure =>
        have := HJ.out
        simp [intOf]
        omega
    · obtain rfl : k = n := by omega
      go_wp2
      go_ret
      have hf : fillR k k z = strs (List.replicate k z) := by simp [fillR]
      have h := HG.out
      rw [hf] at h
      exact ⟨_, rfl, ⟨by rw [strs_len, List.length_replicate, Nat.mul_one], _, _, rfl, Nat.le_refl _, by unfold maxLen; omega, .inr ⟨_, 0, rfl, blk_lt h, fun j u hu => by rw [Nat.zero_add]; exact blk_cell h (by rw [List.getElem?_toArray]; exact hu)⟩⟩, fun b hb => Nat.le_of_eq (Option.some.inj hb), hbel⟩
def z128 : ByteArray := ⟨(zeros 128).toArray⟩
def newL (n : Int) : List ByteArray := if 10 ≤ n ∧ n ≤ 130 then List.replicate n.toNat z128 else []
def newE (n : Int) : Int := if 10 ≤ n ∧ n ≤ 130 then 0 else 2
theorem repeatL_zero : Lib.repeatL (ByteArray.mk #[0]).data.toList 128 = zeros 128 := by decide +kernel
def DiskRes (w : World) (xs : List ByteArray) (k : Int) (e : Ending) (w' : World) : Prop := ∃ v, e = .returned (.tuple #[.agg #[v], .int .i64 k]) ∧ SlAt w' v 1 xs.length (strs xs) ∧ FreshV w.heap.size v ∧ Below w.heap.size w w'
theorem new_any (n : Int) (w : World) :
    Calls Try.prog 32 #[.int .i64 n] w (DiskRes w (newL n) (newE n)) := by
  by_cases h : 10 ≤ n ∧ n ≤ 130
  · obtain ⟨k, rfl⟩ := Int.eq_ofNat_of_zero_le (show 0 ≤ n by omega)
    have he : newE k = 0 := if_pos h
    have hl : newL k = List.replicate k z128 := if_pos h
    rw [he, hl]
    clear he hl
    have hrep := fun W => Try.strings_Repeat ⟨#[0]⟩ 128 W (by omega) (by decide)
    rw [repeatL_zero] at hrep
    have HR := Lib.hid hrep
    clear hrep
    have h10 : (10 : Int) ≤ k := h.1
    have h130 : (k : Int) ≤ 130 := h.2
    clear h
    go_enter Try.func32, Try.ntmps32
    go_wp2_with (first
      | (go_at_call 55; refine (HR.out _).mono ?_; rintro e w1 ⟨rfl, hb1⟩; have K1 := Lib.hid (blk_call hb1 (blk_new w _)))
      | (go_at_call 54; refine (sRepeat_any z128 k _ _ (blk_new w1 _) (by omega) (by omega)).mono ?_; rintro e w2 ⟨v, rfl, hv, hfv, hb2⟩; obtain ⟨a, c, rfl, hac, hcm⟩ := hv.form; have K2 := Lib.hid (blk_call hb2 (blk_alloc _ K1.out)); have e1 := blk_cell K2.out (j := 0) rfl; have e2 := blk_free K2.out 0))
    refine bodyPost_ret (v := .tuple #[.agg #[.slice a k c], .int .i64 0]) ?_ rfl ?_
    · simp [results, Try.results32, go_sem, e1]
    · have HS := hv
      have hz : w.heap.size < w1.heap.size := size_lt hb1 (by simp)
      exact ⟨_, rfl, by rw [List.length_replicate]; exact HS.store (fun b hb => by have := hfv b hb; simp at this ⊢; omega) _, hfv.mono (by simp; omega), bset (bel (bal (bel (bal (Below.refl _ _) _) hb1) _) hb2) (Nat.le_refl _) _⟩
  · have he : newE n = 2 := if_neg h
    have hl : newL n = [] := if_neg h
    rw [he, hl]
    clear he hl
    by_cases h1 : n < 10
    · go_enter Try.func32, Try.ntmps32
      go_wp2
      refine bodyPost_ret (v := .tuple #[.agg #[.slice none 0 0], .int .i64 2]) ?_ rfl ?_
      · simp [results, Try.results32, go_sem]
      · exact ⟨_, rfl, SlAt.nil _ _, FreshV.nil _ _ _, by first | exact bset (bal (Below.refl _ _) _) (Nat.le_refl _) _ | exact bal (Below.refl _ _) _⟩
    · have h2 : 130 < n := by omega
      go_enter Try.func32, Try.ntmps32
      go_wp2
      refine bodyPost_ret (v := .tuple #[.agg #[.slice none 0 0], .int .i64 2]) ?_ rfl ?_
      · simp [results, Try.results32, go_sem]
      · exact ⟨_, rfl, SlAt.nil _ _, FreshV.nil _ _ _, by first | exact bset (bal (Below.refl _ _) _) (Nat.le_refl _) _ | exact bal (Below.refl _ _) _⟩
end Go.Proofs.Ytopaddpclipnjaa
namespace Go.Proofs.Ytopaddpclipnjaa
open Go.RowKit
theorem diskRes_bad {w w' : World} {k : Int} (hb : Below w.heap.size w w') : DiskRes w [] k (.returned (.tuple #[.agg #[.slice none 0 0], .int .i64 k])) w' :=
  ⟨_, rfl, SlAt.nil _ _, FreshV.nil _ _ _, hb⟩
theorem tear_bad1 (v : Value) (xs : List ByteArray) (i : Int) (t : ByteArray) (k : Int) (w : World) (hS : SlAt w v 1 xs.length (strs xs)) (h : mayD xs i ≠ 0) :
    Calls Try.prog 59 #[.agg #[v], .int .i64 i, .string t, .int .i64 k] w (DiskRes w [] (mayD xs i)) := by
  obtain ⟨a, c, rfl, hnc, hcm⟩ := hS.form
  have HS := Lib.hid hS
  clear hS
  have hm := fun W (h : SlAt W (Value.slice a xs.length c) 1 xs.length (strs xs)) => may_any _ xs i W h
  obtain ⟨m, hm'⟩ : ∃ m, m = mayD xs i := ⟨_, rfl⟩
  rw [← hm'] at hm h ⊢
  have HM := Lib.hid hm
  have hne : (m != 0) = true := by simpa using h
  clear hm hm' h
  go_enter Try.func59, Try.ntmps59
  go_wp2_with (go_at_call 80; refine (HM.out _ ((HS.out.alloc _).alloc _)).mono ?_; rintro e w1 ⟨rfl, hb1⟩; have K1 := Lib.hid (blk_call hb1 (blk_new2 w _ _)); have e1 := blk_cell K1.out (j := 0) rfl; have e2 := blk_free K1.out 0)
  refine bodyPost_ret (v := .tuple #[.agg #[.slice none 0 0], .int .i64 m]) ?_ rfl ?_
  · simp [results, Try.results59, go_sem, e1]
  · exact diskRes_bad (bset (bel (bal (bal (Below.refl _ _) _) _) hb1) (Nat.le_succ _) _)
theorem tear_bad2 (v : Value) (xs : List ByteArray) (i : Int) (t : ByteArray) (k : Int) (w : World) (hS : SlAt w v 1 xs.length (strs xs)) (h : mayD xs i = 0) (ht : t.size ≠ 128) :
    Calls Try.prog 59 #[.agg #[v], .int .i64 i, .string t, .int .i64 k] w (DiskRes w [] 2) := by
  obtain ⟨a, c, rfl, hnc, hcm⟩ := hS.form
  have HS := Lib.hid hS
  clear hS
  have hm := fun W (h : SlAt W (Value.slice a xs.length c) 1 xs.length (strs xs)) => may_any _ xs i W h
  rw [h] at hm
  have HM := Lib.hid hm
  have hne : ((t.size : Int) != 128) = true := by simp; omega
  clear hm h ht
  go_enter Try.func59, Try.ntmps59
  go_wp2_with (go_at_call 80; refine (HM.out _ ((HS.out.alloc _).alloc _)).mono ?_; rintro e w1 ⟨rfl, hb1⟩; have K1 := Lib.hid (blk_call hb1 (blk_new2 w _ _)); have e1 := blk_cell K1.out (j := 0) rfl; have e2 := blk_free K1.out 0)
  refine bodyPost_ret (v := .tuple #[.agg #[.slice none 0 0], .int .i64 2]) ?_ rfl ?_
  · simp [results, Try.results59, go_sem, e1]
  · exact diskRes_bad (bset (bel (bal (bal (Below.refl _ _) _) _) hb1) (Nat.le_succ _) _)
theorem tear_bad3 (v : Value) (xs : List ByteArray) (i : Int) (t : ByteArray) (k : Int) (w : World) (hS : SlAt w v 1 xs.length (strs xs)) (h : mayD xs i = 0) (ht : t.size = 128) (hk : k < 0 ∨ 128 < k) :
    Calls Try.prog 59 #[.agg #[v], .int .i64 i, .string t, .int .i64 k] w (DiskRes w [] 1) := by
  obtain ⟨a, c, rfl, hnc, hcm⟩ := hS.form
  have HS := Lib.hid hS
  clear hS
  have hm := fun W (h : SlAt W (Value.slice a xs.length c) 1 xs.length (strs xs)) => may_any _ xs i W h
  rw [h] at hm
  have HM := Lib.hid hm
  clear hm h
  by_cases h0 : k < 0
  all_goals
    first | (have h1 : 128 < k := by omega) | skip
    go_enter Try.func59, Try.ntmps59
    go_wp2_with (go_at_call 80; refine (HM.out _ ((HS.out.alloc _).alloc _)).mono ?_; rintro e w1 ⟨rfl, hb1⟩; have K1 := Lib.hid (blk_call hb1 (blk_new2 w _ _)); have e1 := blk_cell K1.out (j := 0) rfl; have e2 := blk_free K1.out 0)
    refine bodyPost_ret (v := .tuple #[.agg #[.slice none 0 0], .int .i64 1]) ?_ rfl ?_
    · simp [results, Try.results59, go_sem, e1]
    · exact diskRes_bad (bset (bel (bal (bal (Below.refl _ _) _) _) hb1) (Nat.le_succ _) _)
theorem cells_getD {W : World} {b o n c : Nat} {xs : List ByteArray} (h : SlAt W (.slice (some ⟨b, o, none⟩) n c) 1 n (strs xs)) : ∀ j, j < xs.length → W.cell? ⟨b, o + j, none⟩ = some (.string (xs.getD j ByteArray.empty)) := by
  intro j hj
  have hl := h.1
  rw [strs_len] at hl
  obtain ⟨b', o', e, _, hc⟩ := h.at (by omega)
  injection e with e
  injection e with e1 e2
  subst e1 e2
  have := hc j _ (strs_get xs j hj)
  rw [this, List.getD_eq_getElem?_getD, List.getElem?_eq_getElem hj]
  rfl
theorem cell_own {W : World} {B e g n cap i : Nat} {xs : List ByteArray} (h : W.ownsRow B e 1 (.slice (some ⟨g, 0, none⟩) n cap) n ((xs.take n).map Value.string)) (hi : i < xs.length) (hn : n = xs.length := by rfl) : W.cell? ⟨g, i, none⟩ = some (.string xs[i]) := by
  rw [h.cellAt i (by omega), List.getElem?_map, List.getElem?_take, if_pos (by omega), List.getElem?_eq_getElem hi]
  rfl
theorem K1lt {w w1 : World} {o1 o2 : Obj} (h : Below ((w.alloc o1).alloc o2).heap.size ((w.alloc o1).alloc o2) w1) : w.heap.size + 1 < w1.heap.size := size_lt h (by rw [size_alloc, size_alloc]; omega)
theorem keep_grown {w w' : World} {g b : Nat} {o : Obj} (hg : w.grownBy w' (some g)) (hne : b ≠ g) (h : w.heap[b]? = some o) : w'.heap[b]? = some o :=
  (hg.block b (blk_lt h) (by simpa using hne)).trans h
set_option maxHeartbeats 1000000 in
set_option maxRecDepth 100000 in
theorem tear_ok (v : Value) (xs : List ByteArray) (i : Nat) (t : ByteArray) (k : Nat) (w : World) (hS : SlAt w v 1 xs.length (strs xs)) (h : mayD xs i = 0) (ht : t.size = 128) (hk : k ≤ 128) (hi : i < xs.length) :
    Calls Try.prog 59 #[.agg #[v], .int .i64 i, .string t, .int .i64 k] w (DiskRes w (xs.set i (over xs[i] t k)) 0) := by
  obtain ⟨hr, _, _⟩ := mayD_zero h
  obtain ⟨h10, h130, hsz⟩ := rightD_sizes hr
  have hx128 : (xs[i]).size = 128 := hsz _ (List.getElem_mem hi)
  obtain ⟨x, hx⟩ : ∃ x, x = xs[i] := ⟨_, rfl⟩
  rw [← hx] at hx128 ⊢
  obtain ⟨a, c, rfl, hnc, hcm⟩ := hS.form
  have HS := Lib.hid hS
  clear hS
  have hm := fun W (h : SlAt W (Value.slice a xs.length c) 1 xs.length (strs xs)) => may_any _ xs i W h
  rw [h] at hm
  have HM := Lib.hid hm
  clear hm h hsz hr
  obtain ⟨b, o, rfl, hbl, hcell⟩ := HS.out.at (by omega)
  have hck := hcell i _ (strs_get xs i hi)
  rw [← hx] at hck
  clear hcell
  have HX := Lib.hid hx
  clear hx
  have hal : ∀ W : World, (Instr.alloc 85 true (.tuple #[])).run Try.prog W = .ok (.pointer (some ⟨W.heap.size, 0, none⟩)) (W.alloc (.cells (Lib.byteCells (zeros 128)).toArray 85)) := fun W => by kernel_rfl
  have HA := Lib.hid hal
  clear hal
  have hk1 : (k : Int) ≤ 128 := by omega
  have HZ : Hid ((Try.prog.info? 5).map (·.size) = some 1) := by
    show (Try.prog.info? 5).map (·.size) = some 1
    kernel_rfl
  have HF1 : Hid (0 + min x.size 128 ≤ (zeros 128).length) := by
    show _ ≤ _
    rw [zeros_len]
    omega
  have HL1 : Hid (bytesOf x = splice (zeros 128) 0 ((bytesOf x).take (min x.size 128))) := by
    show _ = _
    have hl : (bytesOf x).length = 128 := by rw [show (bytesOf x).length = x.size from len_data x, hx128]
    rw [List.take_of_length_le (by rw [hl, hx128]; decide)]
    have := splice_mid [] (zeros 128) [] (bytesOf x) 0 rfl (by rw [hl, zeros_len])
    simpa using this.symm
  have HF3 : Hid (0 + 128 ≤ (splice (bytesOf x) 0 ((bytesOf t).take (min t.size k))).length) := by
    show _ ≤ _
    have hl : (bytesOf x).length = 128 := by rw [show (bytesOf x).length = x.size from len_data x, hx128]
    rw [length_splice _ _ _ (by rw [List.length_take, hl]; omega), hl]
    decide
  have HF2 : Hid (0 + min t.size k ≤ (bytesOf x).length) := by
    show _ ≤ _
    rw [show (bytesOf x).length = x.size from len_data x, hx128]
    omega
  have hx' : x.size = 128 := hx128
  go_enter Try.func59, Try.ntmps59
  go_wp2_with (first
    | (go_at_call 80; refine (HM.out _ ((HS.out.alloc _).alloc _)).mono ?_; rintro e w1 ⟨rfl, hb1⟩; have K1 := Lib.hid (blk_call hb1 (blk_new2 w _ _)); have K0 := Lib.hid (blk_call hb1 (blk_new1 w _ _)))
    | (with_reducible refine ev_alloc 11 rfl rfl 128 rfl HA.out ?_; intro W2 g2 hg2 hz2 HB2 hb2; have e0 := blk_cell (blk_call hb2 K0.out) (j := 0) rfl; have ex := (hb2.cell (p := ⟨b, o + i, none⟩) (size_lt hb1 (by rw [size_alloc, size_alloc]; show b < _; omega))).trans ((hb1.cell (p := ⟨b, o + i, none⟩) (by rw [size_alloc, size_alloc]; show b < _; omega)).trans ((cell_alloc2 w _ _ hbl).trans hck)))
    )
  go_region_law (refine st_copy_str rfl (.tmp 33) (.tmp 38) 86 9 rfl 5 Try.underlying86 HZ.out 0 128 128 x (by go_simp) (by go_simp) HB2.out.drew HF1.out ?_; intro W3 HB3 hgr3)
  have HB4 := name4 HB3.out HL1.out
  have hz1 := K1lt hb1
  have hne1 : w.heap.size + 1 ≠ g2 := by omega
  have hne0 : w.heap.size ≠ g2 := by omega
  have hb12 : Below w.heap.size w W2 := bel (bel (bal (bal (Below.refl _ _) _) _) hb1) hb2
  have hz3 : W2.heap.size ≤ W3.heap.size := hgr3.size
  have HW3 := Lib.hid (grown_below hb12.drew hgr3 (by show w.heap.size ≤ W2.heap.size; omega) (by omega))
  have K3 := Lib.hid (keep_grown hgr3 hne1 (blk_call hb2 K1.out))
  have K4 := Lib.hid (keep_grown hgr3 hne0 (blk_call hb2 K0.out))
  clear HB3 hgr3
  go_wp2_with (first
    | ((with_reducible refine gate 43 rfl ?_); refine ev_copy_str rfl (.tmp 41) (.tmp 42) 86 9 rfl 5 Try.underlying86 HZ.out 0 k 128 t rfl rfl HB4.out HF2.out ?_; intro W4 HB5 hgr4; have K5 := Lib.hid (keep_grown hgr4 hne1 K3.out); have K6 := Lib.hid (keep_grown hgr4 hne0 K4.out); have e4 := blk_cell K6.out (j := 0) rfl; have HW4 := Lib.hid (grown_below HW3.out hgr4 (by omega) (by omega))))
  refine (Try.slices_Clone_string b o xs.length c xs _ (Nat.le_refl _) (by omega) (cells_getD (HS.out.stay HW4.out))).mono ?_
  rintro e w5 ⟨v', rfl, hown, hnn, hb5⟩
  obtain ⟨g5, cap5, rfl, h5b, h5lt⟩ := hown.form (by omega)
  have HOWN := Lib.hid hown
  clear hown hnn
  have c5 := cell_own HOWN.out hi
  have f5 := HOWN.out.frozenAt i
  have hrt := run_text (P := Try.prog) Try.underlying86 Try.underlying5 Try.underlying9 (HB5.out.below hb5) 0 128 128 HF3.out
  have K7 := Lib.hid (blk_call hb5 K5.out)
  have hne5 : w.heap.size + 1 ≠ g5 := by
    have := hgr4.size
    omega
  have c7 := fun u => blk_cell (blk_set_far K7.out (a := ⟨g5, i, none⟩) hne5 u) (j := 0) rfl
  have f7 := fun u => blk_free (blk_set_far K7.out (a := ⟨g5, i, none⟩) hne5 u) 0
  go_wp2
  obtain ⟨S, hS⟩ : ∃ S, S = ByteArray.mk (((splice (bytesOf x) 0 ((bytesOf t).take (min t.size k))).drop 0).take 128).toArray := ⟨_, rfl⟩
  have hSo : S = over x t k := by
    have hlx : (bytesOf x).length = 128 := by rw [show (bytesOf x).length = x.size from len_data x, hx128]
    have hlt : (bytesOf t).length = 128 := by rw [show (bytesOf t).length = t.size from len_data t, ht]
    rw [hS, List.drop_zero, List.take_of_length_le (by rw [length_splice _ _ _ (by rw [List.length_take, hlx]; omega), hlx]; exact Nat.le_refl _)]
    unfold over splice
    rw [show min t.size k = k by omega, List.take_zero, List.nil_append, List.length_take, hlt, show min k 128 = k by omega, Nat.zero_add]
    rfl
  refine bodyPost_ret (v := .tuple #[.agg #[.slice (some ⟨g5, 0, none⟩) xs.length cap5], .int .i64 0]) ?_ rfl ?_
  · simp [results, Try.results59, go_sem, c7]
  · have hst := (HOWN.out.stored i (.string S)).1
    have hl : ((xs.take xs.length).map Value.string).set i (.string S) = strs (xs.set i S) := by
      rw [List.take_length, ← List.map_set]
      rfl
    rw [hl] at hst
    rw [← hSo]
    have hsl := SlAt.of_own hst (by unfold maxLen; omega)
    have hw5 := bels HW4.out HW4.out.size hb5
    have hg5 : w.heap.size ≤ g5 := Nat.le_trans HW4.out.size h5b
    refine ⟨_, rfl, ?_, fun b hb => by have e : g5 = b := Option.some.inj hb; omega, ?_⟩
    · rw [List.length_set]
      have := hsl.store (p := ⟨w.heap.size + 1, 0, none⟩) (fun b hb => by have e : g5 = b := Option.some.inj hb; show b ≠ w.heap.size + 1; omega) (.slice (some ⟨g5, 0, none⟩) xs.length cap5)
      have hS2 : S = ByteArray.mk ((splice (bytesOf x) 0 ((bytesOf t).take k)).take 128).toArray := by
        rw [hS, List.drop_zero, show min t.size k = k by omega]
      rw [hS2] at this ⊢
      exact this
    · exact bset (bset hw5 hg5 _) (Nat.le_succ _) _
theorem tear_any (v : Value) (xs : List ByteArray) (i : Int) (t : ByteArray) (k : Int) (w : World) (hS : SlAt w v 1 xs.length (strs xs)) :
    Calls Try.prog 59 #[.agg #[v], .int .i64 i, .string t, .int .i64 k] w (DiskRes w (tearL xs i t k) (tearE xs i t k)) := by
  by_cases h : mayD xs i = 0
  · by_cases ht : t.size = 128
    · by_cases hk : k < 0 ∨ 128 < k
      · have e : tearE xs i t k = 1 := by unfold tearE; rw [if_neg (by simp [h]), if_neg (by simp [ht]), if_pos hk]
        have e2 : tearL xs i t k = [] := by unfold tearL; rw [e]; rfl
        rw [e, e2]
        exact tear_bad3 v xs i t k w hS h ht hk
      · have e : tearE xs i t k = 0 := by unfold tearE; rw [if_neg (by simp [h]), if_neg (by simp [ht]), if_neg hk]
        obtain ⟨_, h0, h1⟩ := mayD_zero h
        obtain ⟨n, rfl⟩ := Int.eq_ofNat_of_zero_le h0
        obtain ⟨m, rfl⟩ := Int.eq_ofNat_of_zero_le (show 0 ≤ k by omega)
        have hn : n < xs.length := by omega
        have e2 : tearL xs n t m = xs.set n (over xs[n] t m) := by
          unfold tearL
          rw [if_pos e, Int.toNat_natCast, Int.toNat_natCast, List.getD_eq_getElem?_getD, List.getElem?_eq_getElem hn]
          rfl
        rw [e, e2]
        exact tear_ok v xs n t m w hS h ht (by omega) hn
    · have e : tearE xs i t k = 2 := by unfold tearE; rw [if_neg (by simp [h]), if_pos ht]
      have e2 : tearL xs i t k = [] := by unfold tearL; rw [e]; rfl
      rw [e, e2]
      exact tear_bad2 v xs i t k w hS h ht
  · have e : tearE xs i t k = mayD xs i := by unfold tearE; rw [if_pos h]
    have e2 : tearL xs i t k = [] := by unfold tearL; rw [e, if_neg h]
    rw [e, e2]
    exact tear_bad1 v xs i t k w hS h
end Go.Proofs.Ytopaddpclipnjaa
namespace Go.Proofs.Ytopaddpclipnjaa
open Go.RowKit
theorem write_any (v : Value) (xs : List ByteArray) (i : Int) (t : ByteArray) (w : World) (hS : SlAt w v 1 xs.length (strs xs)) :
    Calls Try.prog 34 #[.agg #[v], .int .i64 i, .string t] w (DiskRes w (tearL xs i t 128) (tearE xs i t 128)) := by
  obtain ⟨a, c, rfl, hnc, hcm⟩ := hS.form
  have HS := Lib.hid hS
  clear hS
  have htear := fun W (h : SlAt W (Value.slice a xs.length c) 1 xs.length (strs xs)) => tear_any _ xs i t 128 W h
  obtain ⟨L, hL⟩ : ∃ L, L = tearL xs i t 128 := ⟨_, rfl⟩
  obtain ⟨E, hE⟩ : ∃ E, E = tearE xs i t 128 := ⟨_, rfl⟩
  rw [← hL, ← hE] at htear ⊢
  clear hL hE
  have HT := Lib.hid htear
  clear htear
  go_enter Try.func34, Try.ntmps34
  go_wp2_with (go_at_call 59; refine (HT.out _ ((HS.out.alloc _).alloc _)).mono ?_; rintro e w1 ⟨v', rfl, hs1, hf1, hb1⟩; obtain ⟨a1, c1, rfl, hn1, hm1⟩ := hs1.form; have K1 := Lib.hid (blk_call hb1 (blk_new2 w _ _)); have e1 := blk_cell K1.out (j := 0) rfl; have e2 := blk_free K1.out 0)
  refine bodyPost_ret (v := .tuple #[.agg #[.slice a1 L.length c1], .int .i64 E]) ?_ rfl ?_
  · simp [results, Try.results34, go_sem, e1]
  · refine ⟨_, rfl, hs1.store (fun b hb => ?_) _, hf1.mono (by simp; omega), bset (bel (bal (bal (Below.refl _ _) _) _) hb1) (Nat.le_succ _) _⟩
    have := hf1 b hb
    simp at this
    show b ≠ w.heap.size + 1
    omega
end Go.Proofs.Ytopaddpclipnjaa
namespace Go.Proofs.YtopaddpclipnjaaQ.P
open Go.RowKit Go.Proofs.YtopaddpclipnjaaW.PrintWords Go.Proofs.Ytopaddpclipnjaa
theorem strs_c {w : World} {A : Option Addr} {c : Nat} {xs : List ByteArray} (h : Kd.C Kd.string w A xs.length xs) (hc : xs.length ≤ c) : SlAt w (.slice A xs.length c) 1 xs.length (strs xs) := by
  have := slat_of_C (d := Kd.string) (f := fun x : ByteArray => x) (en := fun s => [Value.string s]) (fun h => h) (fun _ => rfl) (by decide) h hc
  rw [flat_strs, List.map_id'] at this
  exact this
theorem cell_same {w w' : World} {b o : Nat} (h : w'.heap[b]? = w.heap[b]?) : w'.cell? ⟨b, o, none⟩ = w.cell? ⟨b, o, none⟩ := by
  unfold World.cell?
  simp only [h]
theorem v_of_fresh {w' : World} {B e base : Nat} {v : Value} {xs : List ByteArray} (hs : SlAt w' v 1 xs.length (strs xs)) (hf : FreshV B v) : Kd.V Kd.string e w' base (fun k_ => B ≤ k_) v xs := by
  obtain ⟨a, c, rfl, hnc, hm⟩ := hs.form
  refine ⟨a, c, rfl, hnc, fun W' hW => ⟨rfl, by unfold maxLen at hm; omega, fun hp => ?_⟩⟩
  obtain ⟨b, o, rfl, hb, hcell⟩ := hs.at hp
  have hB : B ≤ b := hf b rfl
  refine ⟨_, rfl, fun j p hj => ⟨[.string p], rfl, rfl, fun i u hu => ?_⟩⟩
  have hs1 : Kd.string.sz = 1 := rfl
  match i, hu with
  | 0, hu =>
    obtain rfl := Option.some.inj hu
    rw [hs1, add_off, Nat.mul_one, Nat.add_zero, cell_same (hW b hB hb)]
    exact hcell j _ (by simp [strs, hj])
def sector_Right.f (l0_0 : List ByteArray) : Option (Bool) := some (rightD l0_0)
theorem sector_Right.calls (A0_0 : Option Addr) (c0_0 : Nat) (l0_0 : List ByteArray) (r : Bool) (w : World) (hr0_0 : Kd.C Kd.string w A0_0 l0_0.length l0_0) (hc0_0 : l0_0.length ≤ c0_0) (h : sector_Right.f l0_0 = some r) :
    Calls Try.prog 60 #[.agg #[.slice A0_0 l0_0.length c0_0]] w fun e w' => e = .returned (.bool r) ∧ Below w.heap.size w w' := by
  obtain rfl := Option.some.inj h
  exact right_any _ _ w (strs_c hr0_0 hc0_0)
theorem disk_v {w : World} {xs : List ByteArray} {k : Int} {e : Ending} {w' : World} (h : DiskRes w xs k e w') : ∃ v0_ : Value, e = .returned (.tuple #[.agg #[v0_], .int .i64 k]) ∧ Kd.V Kd.string 9 w' w.heap.size (fun k_ => (w.heap.size ≤ k_)) v0_ xs ∧ Below w.heap.size w w' := by
  obtain ⟨v, rfl, hs, hf, hb⟩ := h
  exact ⟨v, rfl, v_of_fresh hs hf, hb⟩
def sector_New.f (a0 : Int) : Option (List ByteArray × Int) := some (newL a0, newE a0)
theorem sector_New.calls (a0 : Int) (r1 : List ByteArray) (r2 : Int) (w : World) (h : sector_New.f a0 = some (r1, r2)) :
    Calls Try.prog 32 #[.int .i64 a0] w fun e w' => ∃ v0_ : Value, e = .returned (.tuple #[.agg #[v0_], .int .i64 r2]) ∧ Kd.V Kd.string 9 w' w.heap.size (fun k_ => (w.heap.size ≤ k_)) v0_ r1 ∧ Below w.heap.size w w' := by
  obtain ⟨rfl, rfl⟩ := Prod.mk.inj (Option.some.inj h)
  exact (new_any a0 w).mono fun e w' hd => disk_v hd
def sector_Write.f (l0_0 : List ByteArray) (a1 : Int) (a2 : ByteArray) : Option (List ByteArray × Int) := some (tearL l0_0 a1 a2 128, tearE l0_0 a1 a2 128)
theorem sector_Write.calls (A0_0 : Option Addr) (c0_0 : Nat) (l0_0 : List ByteArray) (a1 : Int) (a2 : ByteArray) (r1 : List ByteArray) (r2 : Int) (w : World) (hr0_0 : Kd.C Kd.string w A0_0 l0_0.length l0_0) (hc0_0 : l0_0.length ≤ c0_0) (h : sector_Write.f l0_0 a1 a2 = some (r1, r2)) :
    Calls Try.prog 34 #[.agg #[.slice A0_0 l0_0.length c0_0], .int .i64 a1, .string a2] w fun e w' => ∃ v0_ : Value, e = .returned (.tuple #[.agg #[v0_], .int .i64 r2]) ∧ Kd.V Kd.string 9 w' w.heap.size (fun k_ => (w.heap.size ≤ k_)) v0_ r1 ∧ Below w.heap.size w w' := by
  obtain ⟨rfl, rfl⟩ := Prod.mk.inj (Option.some.inj h)
  exact (write_any _ _ a1 a2 w (strs_c hr0_0 hc0_0)).mono fun e w' hd => disk_v hd
end Go.Proofs.YtopaddpclipnjaaQ.P
namespace Go.Proofs.Ytopaddpclipnjaa
open Go.RowKit
theorem setCell_setCell (w : World) (a : Addr) (v v' : Value) : (w.setCell a v).setCell a v' = w.setCell a v' := by
  unfold World.setCell
  simp only [World.mk.injEq, and_true, true_and]
  apply Array.ext
  · simp
  · intro i h1 h2
    simp only [Array.getElem_modify]
    by_cases h : a.block = i
    · simp only [h, if_true]
      cases hc : w.heap[i]'(by simpa using h2) <;> simp only []
      split <;> simp
    · simp [h]
theorem run_lit {P : Program} {src dst e : TypeId} (hs : P.underlying src = some (.slice e)) (he : P.underlying e = some (.int .u8)) (hd : P.underlying dst = some .string) (xs : List Int) (w : World) :
    (convert src dst (.slice (some ⟨w.heap.size, 0, none⟩) xs.length xs.length)).run P (w.alloc (.cells (xs.map (Value.int .u8)).toArray e)) = .ok (.string (strOfNums xs)) (w.alloc (.cells (xs.map (Value.int .u8)).toArray e)) := by
  refine run_convert_bytes_arg _ src e hs he _ 0 _ _ xs rfl (fun i hi => ?_) dst hd
  simp only [World.cell?, World.alloc]
  simp [List.getD_eq_getElem?_getD, List.getElem?_eq_getElem hi]
theorem bits_u32_range (op : BinOp) (h : op = .xor ∨ op = .and ∨ op = .or) (a b : Int) : 0 ≤ bits op .u32 a b ∧ bits op .u32 a b < 4294967296 := by
  unfold bits
  rw [IntKind.wrap_u32]
  omega
theorem ofInt_toNat32 (x : BitVec 32) : BitVec.ofInt 32 (x.toNat : Int) = x := by
  apply BitVec.eq_of_toInt_eq
  simp [BitVec.toInt_ofInt, BitVec.toInt_eq_toNat_bmod]
theorem xor_def (a b : Int) : bits .xor .u32 a b = ((BitVec.ofInt 32 a ^^^ BitVec.ofInt 32 b).toNat : Int) % 4294967296 := by
  unfold bits
  rw [IntKind.wrap_u32]
  rfl
theorem xor_u32 (x y : BitVec 32) : bits .xor .u32 (x.toNat : Int) (y.toNat : Int) = ((x ^^^ y).toNat : Int) := by
  rw [xor_def, ofInt_toNat32, ofInt_toNat32]
  have := (x ^^^ y).isLt
  omega
theorem int32_bv (a : Int) (h0 : 0 ≤ a) (h1 : a < 4294967296) : ∃ x : BitVec 32, a = (x.toNat : Int) :=
  ⟨BitVec.ofNat 32 a.toNat, by simp; omega⟩
theorem not_u32 (a : Int) (h0 : 0 ≤ a) (h1 : a < 4294967296) : bits .xor .u32 4294967295 a = 4294967295 - a := by
  obtain ⟨x, rfl⟩ := int32_bv a h0 h1
  have := xor_u32 (BitVec.allOnes 32) x
  rw [show ((BitVec.allOnes 32).toNat : Int) = 4294967295 by decide] at this
  rw [this]
  have h2 : (BitVec.allOnes 32 ^^^ x) = ~~~x := BitVec.allOnes_xor
  rw [h2, BitVec.toNat_not]
  have := x.isLt
  omega
theorem and_def64 (a b : Int) : bits .and .i64 a b = (((BitVec.ofInt 64 a &&& BitVec.ofInt 64 b).toNat : Int) + 9223372036854775808) % 18446744073709551616 - 9223372036854775808 := by
  unfold bits
  rw [IntKind.wrap_i64]
  rfl
theorem and32_i64 (s : Int) : bits .and .i64 s 4294967295 = s % 4294967296 := by
  rw [and_def64]
  have e : BitVec.ofInt 64 4294967295 = BitVec.ofNat 64 (2 ^ 32 - 1) := by decide
  have e2 : (BitVec.ofInt 64 s &&& BitVec.ofNat 64 (2 ^ 32 - 1)).toNat = (BitVec.ofInt 64 s).toNat % 2 ^ 32 := by
    rw [BitVec.toNat_and]
    rw [show (BitVec.ofNat 64 (2 ^ 32 - 1)).toNat = 2 ^ 32 - 1 by decide, Nat.and_two_pow_sub_one_eq_mod]
  rw [e, e2, BitVec.toNat_ofInt]
  omega
def iter (f : Int → Int) : Nat → Int → Int
  | 0, r => r
  | k+1, r => f (iter f k r)
def cbit (r : Int) : Int := bits .xor .u32 (r / 2) (bits .and .u32 3988292384 (-bits .and .u32 r 1 % 4294967296))
def cstep (r b : Int) : Int := iter cbit 8 (bits .xor .u32 r b)
def cmore (r : Int) (l : List UInt8) : Int := l.foldl (fun r b => cstep r b.toNat) r
def crcMore (s : Int) (l : List UInt8) : Int := 4294967295 - cmore (4294967295 - s % 4294967296) l
def crcFour (s : Int) : List UInt8 := [UInt8.ofNat (s / 16777216 % 256).toNat, UInt8.ofNat (s / 65536 % 256).toNat, UInt8.ofNat (s / 256 % 256).toNat, UInt8.ofNat (s % 256).toNat]
theorem cbit_range (r : Int) : 0 ≤ cbit r ∧ cbit r < 4294967296 := by unfold cbit; exact bits_u32_range _ (.inl rfl) _ _
theorem iter_range (f : Int → Int) (h : ∀ r, 0 ≤ f r ∧ f r < 4294967296) (r : Int) (h0 : 0 ≤ r ∧ r < 4294967296) : ∀ k, 0 ≤ iter f k r ∧ iter f k r < 4294967296
  | 0 => h0
  | _+1 => h _
theorem cstep_range (r b : Int) : 0 ≤ cstep r b ∧ cstep r b < 4294967296 := iter_range _ cbit_range _ (bits_u32_range _ (.inl rfl) _ _) 8
theorem cmore_range (r : Int) (l : List UInt8) (h : 0 ≤ r ∧ r < 4294967296) : 0 ≤ cmore r l ∧ cmore r l < 4294967296 := by
  induction l generalizing r with
  | nil => exact h
  | cons b l ih => exact ih _ (cstep_range r b.toNat)
theorem cmore_snoc (r : Int) (l : List UInt8) (b : UInt8) : cmore r (l ++ [b]) = cstep (cmore r l) b.toNat := by simp [cmore]
theorem crcMore_range (s : Int) (l : List UInt8) : 0 ≤ crcMore s l ∧ crcMore s l < 4294967296 := by
  have := cmore_range (4294967295 - s % 4294967296) l (by omega)
  unfold crcMore
  omega
end Go.Proofs.Ytopaddpclipnjaa
namespace Go.Proofs.Ytopaddpclipnjaa
open Go.RowKit
theorem start_e (s : Int) : bits .xor .u32 IntKind.u32.max (bits .and .i64 s 4294967295 % 4294967296) = 4294967295 - s % 4294967296 := by
  rw [and32_i64, show IntKind.u32.max = 4294967295 from rfl, not_u32 _ (by omega) (by omega)]
  omega
theorem more1_any (b r : Int) (g : Nat) (w : World) (hc : w.cell? ⟨g,0,none⟩ = some (.int .u32 r)) (hf : w.frozen? ⟨g,0,none⟩ = false) (h0 : 0 ≤ r) (h1 : r < 4294967296) (hb0 : 0 ≤ b) (hb : b < 256) :
    Calls Try.prog 92 #[.int .u8 b, .pointer (some ⟨g,0,none⟩)] w fun e w' => e = .returned (.tuple #[]) ∧ w' = w.setCell ⟨g,0,none⟩ (.int .u32 (cstep r b)) := by
  go_enter Try.func92, Try.ntmps92
  go_wp2
  go_loopw [7] (fun i wr => ∃ k : Nat, k ≤ 8 ∧ i = .int .i64 k ∧ wr = w.setCell ⟨g,0,none⟩ (.int .u32 (iter cbit k (bits BinOp.xor IntKind.u32 r b)))) (fun i _ => 8 - (intOf i).toNat)
  case atStart => exact ⟨0, by omega, rfl, rfl⟩
  case round =>
    obtain ⟨k, hk, rfl, rfl⟩ := hrel
    have hr := iter_range cbit cbit_range _ (bits_u32_range .xor (.inl rfl) r b) k
    by_cases hlt : k < 8
    · go_wp2
      refine ⟨⟨k+1, by omega, by go_num, ?_⟩, by simp [intOf]; omega⟩
      rw [setCell_setCell]; rfl
    · obtain rfl : k = 8 := by omega
      go_wp2
      go_end0
      exact ⟨rfl, rfl⟩
theorem take_snoc (s : ByteArray) (k : Nat) (h : k < s.size) : s.data.toList.take (k + 1) = s.data.toList.take k ++ [s[k]] := by
  rw [List.take_succ_eq_append_getElem (by simpa using h)]; rfl
theorem more_any (s : Int) (t : ByteArray) (w : World) (ht : t.size ≤ maxLen) :
    Calls Try.prog 79 #[.int .i64 s, .string t] w fun e w' => e = .returned (.int .i64 (crcMore s t.data.toList)) ∧ Below w.heap.size w w' := by
  unfold maxLen at ht
  go_enter Try.func79, Try.ntmps79
  go_wp2
  go_loopw [7, 15] (fun _ i wr => ∃ k : Nat, k ≤ t.size ∧ i = .int .i64 k ∧ wr = w.alloc (.cells #[.int .u32 (cmore (4294967295 - s % 4294967296) (t.data.toList.take k))] 118)) (fun _ i _ => t.size - (intOf i).toNat)
  case atStart => exact ⟨0, by omega, rfl, by rw [start_e]; rfl⟩
  case round =>
    obtain ⟨k, hk, rfl, rfl⟩ := hrel
    have hr := cmore_range (4294967295 - s % 4294967296) (t.data.toList.take k) (by omega)
    by_cases hlt : k < t.size
    · go_wp2_with (go_at_call 92; refine (more1_any _ _ _ _ (by go_simp) (by go_simp) hr.1 hr.2 (by omega) (by have := (t[k]).toNat_lt; omega)).mono ?_; rintro e w' ⟨rfl, rfl⟩)
      refine ⟨⟨k+1, by omega, by go_num, ?_⟩, by simp [intOf]; omega⟩
      rw [take_snoc t k hlt, cmore_snoc]
    · obtain rfl : k = t.size := by omega
      go_wp2
      go_ret
      refine ⟨ret_int ?_, (Below.refl _ _).alloc (Nat.le_refl _) _⟩
      rw [show IntKind.u32.max = 4294967295 from rfl, not_u32 _ hr.1 hr.2, List.take_of_length_le (by simp)]
      have := crcMore_range s t.data.toList
      unfold crcMore at this ⊢
      unfold wrap64
      omega
theorem sum_any (t : ByteArray) (w : World) (ht : t.size ≤ maxLen) :
    Calls Try.prog 58 #[.string t] w fun e w' => e = .returned (.int .i64 (crcMore 0 t.data.toList)) ∧ Below w.heap.size w w' := by
  go_enter Try.func58, Try.ntmps58
  go_wp2_with (go_at_call 79; refine (more_any _ _ _ ht).mono ?_; rintro e w' ⟨rfl, hb⟩)
  go_ret
  exact ⟨rfl, hb⟩
theorem four_any (s : Int) (w : World) :
    Calls Try.prog 57 #[.int .i64 s] w fun e w' => e = .returned (.string ⟨(crcFour s).toArray⟩) ∧ Below w.heap.size w w' := by
  have hc4 := fun (a b c d : Int) (W : World) => run_lit Try.underlying86 Try.underlying5 Try.underlying9 [a, b, c, d] W
  simp only [List.length_cons, List.length_nil, List.map_cons, List.map_nil, Nat.zero_add] at hc4
  go_enter Try.func57, Try.ntmps57
  go_wp2
  go_ret
  exact ⟨rfl, (Below.refl _ _).alloc (Nat.le_refl _) _⟩
end Go.Proofs.Ytopaddpclipnjaa
namespace Go.Proofs.Ytopaddpclipnjaa
open Go.RowKit
theorem zeros_add (a b : Nat) : zeros (a + b) = zeros a ++ zeros b := by simp [zeros, List.replicate_append_replicate]
def stampL (gen no : Int) : List UInt8 := [u8 gen, u8 no]
def headL (gen no : Int) (p : List UInt8) : List UInt8 := stampL gen no ++ ([u8 p.length] ++ (p ++ zeros (96 - p.length)))
def sealL (gen no : Int) (p : List UInt8) : List UInt8 := headL gen no p ++ (crcFour (crcMore 0 (headL gen no p)) ++ (zeros 23 ++ stampL gen no))
theorem headL_len (gen no : Int) (p : List UInt8) (h : p.length ≤ 96) : (headL gen no p).length = 99 := by
  simp [headL, stampL, zeros_len]
  omega
theorem crcFour_len (x : Int) : (crcFour x).length = 4 := rfl
theorem sealL_len (gen no : Int) (p : List UInt8) (h : p.length ≤ 96) : (sealL gen no p).length = 128 := by
  simp [sealL, headL_len gen no p h, crcFour_len, zeros_len, stampL]
theorem fill_one (hd : List UInt8) (h : hd.length = 3) : splice (zeros 128) 0 hd = hd ++ zeros 125 := by
  have := splice_mid [] (zeros 3) (zeros 125) hd 0 rfl (by rw [h, zeros_len])
  simp only [List.nil_append] at this
  rw [← zeros_add] at this
  exact this
theorem fill_two (hd p : List UInt8) (h : hd.length = 3) (hp : p.length ≤ 96) : splice (hd ++ zeros 125) 3 p = (hd ++ (p ++ zeros (96 - p.length))) ++ (zeros 27 ++ zeros 2) := by
  have e : zeros 125 = zeros p.length ++ (zeros (96 - p.length) ++ (zeros 27 ++ zeros 2)) := by
    rw [← zeros_add, ← zeros_add, ← zeros_add]
    congr 1
    omega
  rw [e, splice_mid hd _ _ p 3 h (by rw [zeros_len])]
  simp only [List.append_assoc]
theorem fill_three (A st : List UInt8) (hA : A.length = 99) (hst : st.length = 2) : splice (A ++ (zeros 27 ++ zeros 2)) 126 st = A ++ (zeros 4 ++ (zeros 23 ++ st)) := by
  have := splice_mid (A ++ zeros 27) (zeros 2) [] st 126 (by simp [hA, zeros_len]) (by rw [hst, zeros_len])
  simp only [List.append_nil, List.append_assoc] at this
  rw [this, show zeros 27 = zeros 4 ++ zeros 23 from by rw [← zeros_add], List.append_assoc]
theorem fill_four (A st f : List UInt8) (hA : A.length = 99) (hf : f.length = 4) : splice (A ++ (zeros 4 ++ (zeros 23 ++ st))) 99 f = A ++ (f ++ (zeros 23 ++ st)) :=
  splice_mid A (zeros 4) _ f 99 hA (by rw [hf, zeros_len])
def stampB (gen no : Int) : Bool := decide (1 ≤ gen) && decide (gen ≤ 250) && decide (0 ≤ no) && decide (no ≤ 64)
def sealS (gen no : Int) (p : ByteArray) : ByteArray := if stampB gen no = true ∧ p.size ≤ 96 then ⟨(sealL gen no (bytesOf p)).toArray⟩ else ⟨#[]⟩
def sealE (gen no : Int) (p : ByteArray) : Int := if stampB gen no = false then 1 else if p.size ≤ 96 then 0 else 2
def at8 (x : ByteArray) (i : Nat) : Int := ((x.data.toList.getD i 0).toNat : Int)
theorem at8_range (x : ByteArray) (i : Nat) : 0 ≤ at8 x i ∧ at8 x i < 256 := by
  unfold at8
  have := (x.data.toList.getD i 0).toNat_lt
  omega
def openA (x : ByteArray) : Bool := (x.extract 0 2).toList == (x.extract 126 128).toList
def openB (x : ByteArray) : Bool := (x.extract 99 103).toList == crcFour (crcMore 0 (x.data.toList.take 99))
def partP (x : ByteArray) : ByteArray := x.extract 3 (3 + at8 x 2).toNat
def openE (x : ByteArray) : Int :=
  if x.size ≠ 128 then 2 else if openA x = false then 6 else if openB x = false then 7 else
  if 96 < at8 x 2 then 1 else if sealE (at8 x 0) (at8 x 1) (partP x) = 0 ∧ sealS (at8 x 0) (at8 x 1) (partP x) = x then 0 else 1
def openG (x : ByteArray) : Int := if openE x = 0 then at8 x 0 else 0
def openN (x : ByteArray) : Int := if openE x = 0 then at8 x 1 else 0
def openP (x : ByteArray) : ByteArray := if openE x = 0 then partP x else ⟨#[]⟩
end Go.Proofs.Ytopaddpclipnjaa
namespace Go.Proofs.Ytopaddpclipnjaa
open Go.RowKit
theorem isStamp_any (gen no : Int) (w : World) :
    Calls Try.prog 56 #[.int .i64 gen, .int .i64 no] w fun e w' => e = .returned (.bool (stampB gen no)) ∧ w = w' := by
  go_enter Try.func56, Try.ntmps56
  go_wp2
  all_goals
    go_ret
    refine ⟨ret_bool ?_, rfl⟩
    unfold stampB
    rw [Bool.eq_iff_iff]
    simp
    omega
set_option maxRecDepth 100000 in
theorem seal_ok (gen no : Int) (p : ByteArray) (w : World) (hst : stampB gen no = true) (hp : p.size ≤ 96) :
    Calls Try.prog 33 #[.int .i64 gen, .int .i64 no, .string p] w fun e w' => e = .returned (.tuple #[.string ⟨(sealL gen no (bytesOf p)).toArray⟩, .int .i64 0]) ∧ Below w.heap.size w w' := by
  have hs := fun W => isStamp_any gen no W
  rw [hst] at hs
  have HS := Lib.hid hs
  clear hs hst
  have hal : ∀ W : World, (Instr.alloc 85 true (.tuple #[])).run Try.prog W = .ok (.pointer (some ⟨W.heap.size, 0, none⟩)) (W.alloc (.cells (Lib.byteCells (zeros 128)).toArray 85)) := fun W => by kernel_rfl
  have HA := Lib.hid hal
  clear hal
  obtain ⟨i5, hi5, hs5⟩ : ∃ i, Try.prog.info? 5 = some i ∧ i.size = 1 := by
    have : (Try.prog.info? 5).map (·.size) = some 1 := by kernel_rfl
    exact Option.map_eq_some_iff.1 this
  have HI := Lib.hid hi5
  have HZ := Lib.hid hs5
  clear hi5 hs5
  have hpl : (bytesOf p).length = p.size := len_data p
  obtain ⟨hd, hhd⟩ : ∃ hd : List UInt8, hd = [u8 gen, u8 no, u8 p.size] := ⟨_, rfl⟩
  have hlen : hd.length = 3 := by rw [hhd]; rfl
  have hcells : Lib.byteCells hd = #[Value.int .u8 (gen % 256), .int .u8 (no % 256), .int .u8 p.size].toList := by
    rw [hhd]
    simp only [Lib.byteCells, List.map_cons, List.map_nil, u8_toNat, List.toList_toArray]
    rw [show (p.size : Int) % 256 = p.size by omega]
  have HC := Lib.hid hcells
  clear hcells
  have htake : hd.take 2 = stampL gen no := by rw [hhd]; rfl
  obtain ⟨L3, hL3⟩ : ∃ L3, L3 = splice (splice (zeros 128) 0 hd) 3 (bytesOf p) := ⟨_, rfl⟩
  have hH : hd ++ (bytesOf p ++ zeros (96 - (bytesOf p).length)) = headL gen no (bytesOf p) := by
    rw [hhd, headL, hpl]
    rfl
  have hHl := headL_len gen no (bytesOf p) (by omega)
  have f3 : L3 = headL gen no (bytesOf p) ++ (zeros 27 ++ zeros 2) := by rw [hL3, fill_one hd hlen, fill_two hd _ hlen (by omega), hH]
  obtain ⟨L4, hL4⟩ : ∃ L4, L4 = splice L3 126 (hd.take 2) := ⟨_, rfl⟩
  have f4 : L4 = headL gen no (bytesOf p) ++ (zeros 4 ++ (zeros 23 ++ stampL gen no)) := by rw [hL4, f3, htake, fill_three _ _ hHl rfl]
  obtain ⟨T, hT⟩ : ∃ T : ByteArray, T = ByteArray.mk ((L4.drop 0).take 99).toArray := ⟨_, rfl⟩
  have hTe : T.data.toList = headL gen no (bytesOf p) := by
    rw [hT, f4, List.drop_zero, List.take_left' hHl]
  have hmx : T.size ≤ maxLen := by
    rw [← len_data, hTe, hHl]
    decide
  have HT1 := Lib.hid hT
  have HTE := Lib.hid hTe
  have HL3 := Lib.hid hL3
  have HL4 := Lib.hid hL4
  have HL := Lib.hid hlen
  have HT2 := Lib.hid (show (hd.take 2).length = Nat.min 2 2 by rw [List.length_take, hlen]; rfl)
  have HSRC : Hid (∀ j, j < (hd.take 2).length → L3[0 + j]? = (hd.take 2)[j]?) := by
    intro j hj
    rw [List.length_take, hlen] at hj
    rw [hL3, fill_one hd hlen, fill_two hd _ hlen (by omega), Nat.zero_add, List.append_assoc, List.getElem?_append_left (by omega), List.getElem?_take, if_pos (by omega)]
  have hl3 : L3.length = 128 := by rw [f3]; simp [hHl, zeros_len]
  have HF : Hid (126 + (hd.take 2).length ≤ L3.length) := by
    show 126 + (hd.take 2).length ≤ L3.length
    rw [hl3, htake]
    exact Nat.le_refl 128
  have hl4 : L4.length = 128 := by rw [f4]; simp [hHl, zeros_len, stampL]
  have HF4 : Hid (0 + 99 ≤ L4.length) := by
    show 0 + 99 ≤ L4.length
    omega
  have HF5 : Hid (∀ x, 99 + min (ByteArray.mk (crcFour x).toArray).size 4 ≤ L4.length) := by
    intro x
    omega
  have HE1 := Lib.hid (show (splice (zeros 128) 0 hd).length = 128 by rw [fill_one hd hlen]; simp [hlen, zeros_len])
  have HHD := Lib.hid hHl
  have F4 := Lib.hid f4
  have HPL := Lib.hid hpl
  clear hhd hlen htake hL3 hH hHl f3 hL4 f4 hT hTe hl3 hl4 hpl
  go_enter Try.func33, Try.ntmps33
  go_wp2_with (first
    | (go_at_call 56; refine (HS.out _).mono ?_; rintro e w' ⟨rfl, rfl⟩)
    | (with_reducible refine ev_alloc 8 rfl rfl 128 rfl HA.out ?_; intro W1 g1 hg1 hz1 HB1 hbel1)
    | (at_builtin; refine ev_append_in rfl (.tmp 19) (.tmp 27) 86 5 rfl i5 Try.underlying86 HI.out HZ.out 0 0 99 ⟨W1.heap.size, 0, none⟩ hd 3 3 HL.out.symm rfl rfl (blk_alloc _ HB1.out) (lit_src W1 _ _ _ HC.out) (by rw [HL.out]; decide) (by rw [HL.out, zeros_len]; decide) ?_; intro W2 HB2 hgr2)
    | (refine ev_copy_str (o := ⟨some 31, _, _, _, _, _⟩) rfl (.tmp 29) (.tmp 30) 86 9 rfl 5 Try.underlying86 (by kernel_rfl) 3 96 96 p rfl rfl HB2.out (by rw [HE1.out]; omega) ?_; intro W3 HB3 hgr3))
  have HB3' : Hid (Bts W3 g1 85 L3) := by
    have := HB3.out
    rw [List.take_of_length_le (by rw [HPL.out]; omega)] at this
    rw [HL3.out]
    exact this
  have hb2 : Below w.heap.size w W2 := grown_below (bal hbel1 _) hgr2 (by simp; omega) hg1
  have hb3 : Below w.heap.size w W3 := grown_below hb2 hgr3 hb2.size hg1
  have HB2' := Lib.hid hb3
  clear HB3 HB2 HB1 hgr2 hgr3 hb2 hb3 hbel1 hz1
  go_region_law (refine st_copy_bytes rfl (.tmp 32) (.tmp 34) 86 86 rfl 5 Try.underlying86 (by kernel_rfl) 126 2 2 ⟨g1, 0, none⟩ 2 99 (hd.take 2) rfl rfl HT2.out HB3'.out.drew (Bts.src HB3'.out.drew 0 _ HSRC.out) HF.out ?_; intro W4 HB4 hgr4)
  go_wp2_with fail
  have HB5 := name4 HB4.out HL4.out
  have hrt := run_text (P := Try.prog) Try.underlying86 Try.underlying5 Try.underlying9 HB5.out.drew 0 99 128 HF4.out
  have hb4 : Below w.heap.size w W4 := grown_below HB2'.out.drew hgr4 (by have := HB2'.out.size; exact this) hg1
  have HB6 := Lib.hid hb4
  rw [← HT1.out] at hrt
  clear HB4 hgr4 hb4 HB2' HB3'
  go_region_law (first
    | (refine st_copy_str rfl (.tmp 36) (.tmp 40) 86 9 rfl 5 Try.underlying86 (by kernel_rfl) 99 4 4 _ rfl rfl ((HB5.out.drew.below hb5).below hb6) (HF5.out _) ?_; intro W7 HB7 hgr7)
    | (go_simp; go_at_call 58; refine (sum_any _ _ hmx).mono ?_; rintro e w5 ⟨rfl, hb5⟩)
    | (go_simp; go_at_call 57; refine (four_any _ _).mono ?_; rintro e w6 ⟨rfl, hb6⟩))
  have HB8 : Hid (Bts W7 g1 85 (sealL gen no (bytesOf p))) := by
    have h := HB7.out
    have e1 : List.take (min (ByteArray.mk (crcFour (crcMore 0 T.data.toList)).toArray).size 4) (bytesOf (ByteArray.mk (crcFour (crcMore 0 T.data.toList)).toArray)) = crcFour (crcMore 0 (headL gen no (bytesOf p))) := by
      rw [HTE.out]
      rfl
    rw [e1, F4.out, fill_four _ _ _ HHD.out rfl] at h
    exact h
  have hseal : (sealL gen no (bytesOf p)).length = 128 := sealL_len _ _ _ (by rw [HPL.out]; exact hp)
  have hrt2 := run_text (P := Try.prog) Try.underlying86 Try.underlying5 Try.underlying9 HB8.out 0 128 128 (by omega)
  rw [List.drop_zero, List.take_of_length_le (by omega)] at hrt2
  have hb7 : Below w.heap.size w W7 := grown_below (bels (bels HB6.out.drew HB6.out.size hb5) (by have := HB6.out.size; have := hb5.size; simp at this; omega) hb6) hgr7 (by have := HB6.out.size; have := hb5.size; have := hb6.size; simp at *; omega) hg1
  have HB9 := Lib.hid hb7
  clear hrt hb5 hb6 hgr7 hb7 hseal
  go_wp2
  go_ret2
  exact ⟨rfl, HB9.out⟩
theorem seal_any (gen no : Int) (p : ByteArray) (w : World) :
    Calls Try.prog 33 #[.int .i64 gen, .int .i64 no, .string p] w fun e w' => e = .returned (.tuple #[.string (sealS gen no p), .int .i64 (sealE gen no p)]) ∧ Below w.heap.size w w' := by
  cases hst : stampB gen no
  · have e1 : sealS gen no p = ⟨#[]⟩ := by unfold sealS; rw [hst, if_neg (by simp)]
    have e2 : sealE gen no p = 1 := by unfold sealE; rw [hst, if_pos rfl]
    rw [e1, e2]
    have hs := fun W => isStamp_any gen no W
    rw [hst] at hs
    have HS := Lib.hid hs
    clear hs hst e1 e2
    go_enter Try.func33, Try.ntmps33
    go_wp2_with (go_at_call 56; refine (HS.out _).mono ?_; rintro e w' ⟨rfl, rfl⟩)
    go_ret2
    exact ⟨rfl, Below.refl _ _⟩
  · by_cases hp : p.size ≤ 96
    · have e1 : sealS gen no p = ⟨(sealL gen no (bytesOf p)).toArray⟩ := by unfold sealS; rw [if_pos ⟨hst, hp⟩]
      have e2 : sealE gen no p = 0 := by unfold sealE; rw [hst, if_neg (by simp), if_pos hp]
      rw [e1, e2]
      exact seal_ok gen no p w hst hp
    · have e1 : sealS gen no p = ⟨#[]⟩ := by unfold sealS; rw [if_neg (by omega)]
      have e2 : sealE gen no p = 2 := by unfold sealE; rw [hst, if_neg (by simp), if_neg hp]
      rw [e1, e2]
      have hs := fun W => isStamp_any gen no W
      rw [hst] at hs
      have HS := Lib.hid hs
      have hp' : 96 < p.size := by omega
      clear hs hst e1 e2 hp
      go_enter Try.func33, Try.ntmps33
      go_wp2_with (go_at_call 56; refine (HS.out _).mono ?_; rintro e w' ⟨rfl, rfl⟩)
      go_ret2
      exact ⟨rfl, Below.refl _ _⟩
end Go.Proofs.Ytopaddpclipnjaa
namespace Go.Proofs.Ytopaddpclipnjaa
open Go.RowKit
theorem ext_max (s : ByteArray) (n : Nat) (hs : s.size ≤ maxLen) : (s.extract 0 n).size ≤ maxLen := by
  rw [ByteArray.size_extract]
  omega
end Go.Proofs.Ytopaddpclipnjaa
namespace Go.Proofs.Ytopaddpclipnjaa
open Go.RowKit
theorem at8_get (x : ByteArray) (i : Nat) (h : i < x.size) : at8 x i = ((x[i]'h).toNat : Int) := by
  unfold at8
  rw [List.getD_eq_getElem?_getD, List.getElem?_eq_getElem (by rw [len_data]; exact h)]
  rfl
def OpenPost (x : ByteArray) (w : World) (e : Ending) (w' : World) : Prop := e = .returned (.tuple #[.int .i64 (openG x), .int .i64 (openN x), .string (openP x), .int .i64 (openE x)]) ∧ Below w.heap.size w w'
theorem openPost_bad {x : ByteArray} {w w' : World} {k : Int} (hk : openE x = k) (h0 : k ≠ 0) (hb : Below w.heap.size w w') : OpenPost x w (.returned (.tuple #[.int .i64 0, .int .i64 0, .string ⟨#[]⟩, .int .i64 k])) w' := by
  subst hk
  refine ⟨?_, hb⟩
  unfold openG openN openP
  rw [if_neg h0, if_neg h0, if_neg h0]
set_option maxHeartbeats 2000000 in
set_option maxRecDepth 100000 in
theorem open_any (x : ByteArray) (w : World) (hmax : x.size ≤ maxLen) : Calls Try.prog 36 #[.string x] w (OpenPost x w) := by
  by_cases h128 : x.size = 128
  case neg =>
    have he : openE x = 2 := by unfold openE; rw [if_pos h128]
    have hn : ((x.size : Int) != 128) = true := by simp; omega
    have HE := Lib.hid he
    clear he h128
    go_enter Try.func36, Try.ntmps36
    go_wp2
    (try simp only [Exit.inBlock, Exit.then]); refine bodyPost_ret (results_tmp4 rfl _ _ _) rfl ?_
    exact openPost_bad HE.out (by decide) (Below.refl _ _)
  cases h1 : openA x
  · have he : openE x = 6 := by unfold openE; rw [if_neg (by simp [h128]), if_pos h1]
    have HE := Lib.hid he
    clear he
    unfold openA at h1
    go_enter Try.func36, Try.ntmps36
    go_wp2
    go_region
    go_wp2
    (try simp only [Exit.inBlock, Exit.then]); refine bodyPost_ret (results_tmp4 rfl _ _ _) rfl ?_
    exact openPost_bad HE.out (by decide) ((Below.refl _ _).drew)
  have hmx : (x.extract 0 99).size ≤ maxLen := ext_max x 99 hmax
  cases h2 : openB x
  · have he : openE x = 7 := by unfold openE; rw [if_neg (by simp [h128]), if_neg (by simp [h1]), if_pos h2]
    have HE := Lib.hid he
    clear he
    unfold openA at h1
    unfold openB at h2
    go_enter Try.func36, Try.ntmps36
    go_wp2
    go_region
    go_wp2
    go_region_law (first
      | (go_simp; go_at_call 58; refine (sum_any _ _ hmx).mono ?_; rintro e w5 ⟨rfl, hb5⟩)
      | (go_simp; go_at_call 57; refine (four_any _ _).mono ?_; rintro e w6 ⟨rfl, hb6⟩))
    go_wp2
    (try simp only [Exit.inBlock, Exit.then]); refine bodyPost_ret (results_tmp4 rfl _ _ _) rfl ?_
    exact openPost_bad HE.out (by decide) (bel (bel (Below.refl _ _).drew.drew hb5) hb6)
  have b0 := (at8_get x 0 (by omega)).symm
  have b1 := (at8_get x 1 (by omega)).symm
  have b2 := (at8_get x 2 (by omega)).symm
  have r0 := at8_range x 0
  have r1 := at8_range x 1
  have r2 := at8_range x 2
  have q0 : IntKind.i64.wrap (at8 x 0) = at8 x 0 := by rw [IntKind.wrap_i64]; omega
  have q1 : IntKind.i64.wrap (at8 x 1) = at8 x 1 := by rw [IntKind.wrap_i64]; omega
  have q2 : IntKind.i64.wrap (at8 x 2) = at8 x 2 := by rw [IntKind.wrap_i64]; omega
  obtain ⟨r20, r21⟩ := r2
  by_cases hn : 96 < at8 x 2
  · have he : openE x = 1 := by unfold openE; rw [if_neg (by simp [h128]), if_neg (by simp [h1]), if_neg (by simp [h2]), if_pos hn]
    have HE := Lib.hid he
    clear he
    unfold openA at h1
    unfold openB at h2
    go_enter Try.func36, Try.ntmps36
    go_wp2
    go_region
    go_wp2
    go_region_law (first
      | (go_simp; go_at_call 58; refine (sum_any _ _ hmx).mono ?_; rintro e w5 ⟨rfl, hb5⟩)
      | (go_simp; go_at_call 57; refine (four_any _ _).mono ?_; rintro e w6 ⟨rfl, hb6⟩))
    go_wp2
    go_quiet (fail)
    go_wp2
    (try simp only [Exit.inBlock, Exit.then]); refine bodyPost_ret (results_tmp4 rfl _ _ _) rfl ?_
    refine openPost_bad HE.out (by decide) ?_
    have hbb := bel (bel (Below.refl _ _).drew.drew hb5) hb6
    exact hbb.trans ⟨rfl, rfl, rfl, Nat.le_refl _, fun _ _ => rfl⟩
  have hn3 : 3 + at8 x 2 ≤ 128 := by omega
  have hn4 : 0 ≤ 3 + at8 x 2 := by omega
  have hsl : ∀ W, (Instr.slice 9 (.string x) (some (.int .i64 3)) (some (.int .i64 (3 + at8 x 2))) none).run Try.prog W = .ok (.string (partP x)) W := fun W =>
    run_slice_string W 9 x .i64 .i64 3 (3 + at8 x 2) Try.underlying9 (by omega) (by omega) (by omega)
  have he : openE x = if sealE (at8 x 0) (at8 x 1) (partP x) = 0 ∧ sealS (at8 x 0) (at8 x 1) (partP x) = x then 0 else 1 := by
    unfold openE
    rw [if_neg (by simp [h128]), if_neg (by simp [h1]), if_neg (by simp [h2]), if_neg hn]
  have hseal := fun W => seal_any (at8 x 0) (at8 x 1) (partP x) W
  obtain ⟨E, hE⟩ : ∃ E, E = sealE (at8 x 0) (at8 x 1) (partP x) := ⟨_, rfl⟩
  obtain ⟨S, hS⟩ : ∃ S, S = sealS (at8 x 0) (at8 x 1) (partP x) := ⟨_, rfl⟩
  rw [← hE, ← hS] at hseal he
  have HS := Lib.hid hseal
  clear hseal hE hS
  have hfin : ∀ w', Below w.heap.size w w' → if E = 0 ∧ S = x then OpenPost x w (.returned (.tuple #[.int .i64 (at8 x 0), .int .i64 (at8 x 1), .string (partP x), .int .i64 0])) w' else OpenPost x w (.returned (.tuple #[.int .i64 0, .int .i64 0, .string ⟨#[]⟩, .int .i64 1])) w' := by
    intro w' hb
    by_cases hc : E = 0 ∧ S = x
    · rw [if_pos hc] at he ⊢
      refine ⟨?_, hb⟩
      unfold openG openN openP
      rw [if_pos he, if_pos he, if_pos he, he]
    · rw [if_neg hc] at he ⊢
      exact openPost_bad he (by decide) hb
  have HF := Lib.hid hfin
  clear he hfin
  unfold openA at h1
  unfold openB at h2
  by_cases hE0 : E = 0
  · subst hE0
    cases ht : (S.toList == x.toList)
    all_goals
      go_enter Try.func36, Try.ntmps36
      go_wp2
      go_region
      go_wp2
      go_region_law (first
        | (go_simp; go_at_call 58; refine (sum_any _ _ hmx).mono ?_; rintro e w5 ⟨rfl, hb5⟩)
        | (go_simp; go_at_call 57; refine (four_any _ _).mono ?_; rintro e w6 ⟨rfl, hb6⟩))
      go_wp2
      go_quiet (fail)
      go_wp2_with (go_at_call 33; refine (HS.out _).mono ?_; rintro e w7 ⟨rfl, hb7⟩)
      (try simp only [Exit.inBlock, Exit.then]); refine bodyPost_ret (results_tmp4 rfl _ _ _) rfl ?_
      have hbb := HF.out w7 (bel (bdn (bel (bel (Below.refl _ _).drew.drew hb5) hb6) _) hb7)
    · rw [if_neg (fun hc => by rw [hc.2] at ht; simp at ht)] at hbb
      exact hbb
    · rw [if_pos ⟨by trivial, bytes_of_eq ht⟩] at hbb
      exact hbb
  · have hne : (E != 0) = true := by simpa using hE0
    go_enter Try.func36, Try.ntmps36
    go_wp2
    go_region
    go_wp2
    go_region_law (first
      | (go_simp; go_at_call 58; refine (sum_any _ _ hmx).mono ?_; rintro e w5 ⟨rfl, hb5⟩)
      | (go_simp; go_at_call 57; refine (four_any _ _).mono ?_; rintro e w6 ⟨rfl, hb6⟩))
    go_wp2
    go_quiet (fail)
    go_wp2_with (go_at_call 33; refine (HS.out _).mono ?_; rintro e w7 ⟨rfl, hb7⟩)
    (try simp only [Exit.inBlock, Exit.then]); refine bodyPost_ret (results_tmp4 rfl _ _ _) rfl ?_
    have hbb := HF.out w7 (bel (bdn (bel (bel (Below.refl _ _).drew.drew hb5) hb6) _) hb7)
    rw [if_neg (fun hc => hE0 hc.1)] at hbb
    exact hbb
end Go.Proofs.Ytopaddpclipnjaa
namespace Go.Proofs.YtopaddpclipnjaaQ.P
open Go.RowKit Go.Proofs.YtopaddpclipnjaaW.PrintWords Go.Proofs.Ytopaddpclipnjaa
def seal_Seal.f (a0 : Int) (a1 : Int) (a2 : ByteArray) : Option (ByteArray × Int) := some (sealS a0 a1 a2, sealE a0 a1 a2)
theorem seal_Seal.calls (a0 : Int) (a1 : Int) (a2 : ByteArray) (r1 : ByteArray) (r2 : Int) (w : World) (h : seal_Seal.f a0 a1 a2 = some (r1, r2)) :
    Calls Try.prog 33 #[.int .i64 a0, .int .i64 a1, .string a2] w fun e w' => e = .returned (.tuple #[.string r1, .int .i64 r2]) ∧ Below w.heap.size w w' := by
  obtain ⟨rfl, rfl⟩ := Prod.mk.inj (Option.some.inj h)
  exact seal_any a0 a1 a2 w
def openF (a0 : ByteArray) : Option (Int × Int × ByteArray × Int) := if a0.size ≤ maxLen then some (openG a0, openN a0, openP a0, openE a0) else none
theorem openF_of {a0 : ByteArray} {r1 r2 : Int} {r3 : ByteArray} {r4 : Int} (h : openF a0 = some (r1, r2, r3, r4)) : a0.size ≤ maxLen ∧ openG a0 = r1 ∧ openN a0 = r2 ∧ openP a0 = r3 ∧ openE a0 = r4 := by
  unfold openF at h
  split at h
  · simp only [Option.some.injEq, Prod.mk.injEq] at h
    exact ⟨‹_›, h⟩
  · cases h
def seal_Open.f (a0 : ByteArray) : Option (Int × Int × ByteArray × Int) := openF a0
theorem seal_Open.calls (a0 : ByteArray) (r1 : Int) (r2 : Int) (r3 : ByteArray) (r4 : Int) (w : World) (h : seal_Open.f a0 = some (r1, r2, r3, r4)) :
    Calls Try.prog 36 #[.string a0] w fun e w' => e = .returned (.tuple #[.int .i64 r1, .int .i64 r2, .string r3, .int .i64 r4]) ∧ Below w.heap.size w w' := by
  obtain ⟨h0, rfl, rfl, rfl, rfl⟩ := openF_of h
  exact open_any a0 w h0
def foghornref03_Open.f (a0 : ByteArray) : Option (Int × Int × ByteArray × Int) := openF a0
end Go.Proofs.YtopaddpclipnjaaQ.P
namespace Go.Proofs.YtopaddpclipnjaaQ.P
open Go.RowKit Go.Proofs.YtopaddpclipnjaaW.PrintWords Go.Proofs.YtopaddpclipnjaaW.PrintLast Go.Proofs.YtopaddpclipnjaaW.PrintMore
attribute [local go_sem] max2_int min2_int max_two min_two max_three min_three max_four min_four
def store_New.j0 : Nat → Bool → List ByteArray → Option (List ByteArray × Int × Int × Int × Bool × Int)
 | 0, _, _ => none
 | k + 1, x19, x117000 => if x19 = true then (some (([] : List ByteArray), 0, 0, 0, false, 2)) else ((seal_Seal.f 1 0 (⟨#[]⟩ : ByteArray)).bind fun bt117 => ((sector_Write.f x117000 1 bt117.1).bind fun bt119 => (some (bt119.1, 1, 0, 1, false, 0))))
def store_New.f (k : Nat) (a0 : Int) : Option (List ByteArray × Int × Int × Int × Bool × Int) := (sector_New.f a0).bind fun bt112 => (if bt112.2 = 0 then (store_New.j0 k ((Int.tmod a0 2) != 0) bt112.1) else (store_New.j0 k true bt112.1))
theorem store_New.mono_l : ∀ k, (∀ y0 y1, LeO (store_New.j0 k y0 y1) (store_New.j0 (k + 1) y0 y1))
 | 0 => fun _ _ r h => by simp [store_New.j0] at h
 | k + 1 => by
  have ih0 := store_New.mono_l k
  ·intro y0 y1
   unfold store_New.j0
   repeat' first
   | (with_reducible exact ih0 _ _)
   | (with_reducible exact LeO.refl _)
   | (with_reducible exact LeO.none _)
   | (with_reducible refine LeO.ite ?_ ?_)
   | (with_reducible refine LeO.bind ?_ (fun _ => ?_))
   | exact ih0 _ _
   | exact LeO.none _
   | refine LeO.ite ?_ ?_
   | refine LeO.bind ?_ (fun _ => ?_)
theorem store_New.mono : ∀ a0 k, LeO (store_New.f k a0) (store_New.f (k + 1) a0) := by
 intro a0 k
 have ih0 := store_New.mono_l k
 unfold store_New.f
 repeat' first
   | (with_reducible exact ih0 _ _)
   | (with_reducible exact LeO.refl _)
   | (with_reducible exact LeO.none _)
   | (with_reducible refine LeO.ite ?_ ?_)
   | (with_reducible refine LeO.bind ?_ (fun _ => ?_))
   | exact ih0 _ _
   | exact LeO.none _
   | refine LeO.ite ?_ ?_
   | refine LeO.bind ?_ (fun _ => ?_)
set_option maxHeartbeats 8000000 in
set_option maxRecDepth 100000 in
theorem store_New.calls (k : Nat) (a0 : Int) (r1 : List ByteArray) (r2 : Int) (r3 : Int) (r4 : Int) (r5 : Bool) (r6 : Int) (w : World) (h : store_New.f k a0 = some (r1, r2, r3, r4, r5, r6)) :
  Calls Try.prog 11 #[.int .i64 a0] w fun e w' => ∃ v0_ : Value, e = .returned (.tuple #[.agg #[v0_, .int .i64 r2, .int .i64 r3, .int .i64 r4, .bool r5], .int .i64 r6]) ∧ Kd.V Kd.string 9 w' w.heap.size (fun k_ => (w.heap.size ≤ k_)) v0_ r1 ∧ Below w.heap.size w w' := by
 have hu26 := Try.underlying26
 have hu24 := Try.underlying24
 have HB := aA (Below.refl w.heap.size w)
 have H : ((sector_New.f a0).bind fun bt112 => (if bt112.2 = 0 then (store_New.j0 k ((Int.tmod a0 2) != 0) bt112.1) else (store_New.j0 k true bt112.1))) = some (r1, r2, r3, r4, r5, r6) := h
 clear h
 replace H := Option.bind_eq_some_iff.mp H
 obtain ⟨⟨t112, t115⟩, A20, H⟩ := H
 replace H : (if t115 = 0 then (store_New.j0 k ((Int.tmod a0 2) != 0) t112) else (store_New.j0 k true t112)) = some (r1, r2, r3, r4, r5, r6) := H
 have A2 := aA A20
 clear A20
 have HC3 := aA H
 clear H
 go_enter Try.func11, Try.ntmps11
 go_upto_region 2 with (first | ((with_reducible refine gate_dst (N := 2) rfl ?_); refine box_event ?hg (N := 2) ?hd (cs := #[.slice none 0 0, .int .i64 0, .int .i64 0, .int .i64 0, .bool false]) (t := 26) ?hr ?_; (case hd => rfl); (case hg => rfl); (case hr => first | (go_simp; done) | (go_simp; rfl)); intro gb111 hg w4 hbox hb; have n0_ := aA (below_step mB hb); have n1_ := aA (hbox); have n2_ := aA ((bZ hg mB)); have n3_ := aA ((bZ hg mB)); clear HB; have HB := n0_; have BK111 := n1_; have GW111 := n2_; have GE111 := n3_; clear n0_ n1_ n2_ n3_ hb hbox hg) | ((with_reducible refine gate_callee (f := 32) rfl ?_); refine goesL_ (some 10) rfl rfl Try.func32 (by kernel_rfl) rfl #[.int .i64 a0] rfl mS ?_; (with_reducible refine (sector_New.calls a0 t112 t115 _ A2.out).mono ?_); rintro e w5 ⟨v113, rfl, ho0, hb⟩; refine ⟨_, rfl, ?_⟩; have n0_ := aA (Kd.V_lower (Kd.V_mono (ok' := fun k_ => (w.heap.size ≤ k_) ∧ k_ ≠ gb111) ho0 (fun k_ hk_ => ⟨(Nat.le_trans (below_size (mD1 GE111.out)) hk_), (Kd.freshB (g := gb111) (o := .cells #[.slice none 0 0, .int .i64 0, .int .i64 0, .int .i64 0, .bool false] 26 (0, 0)) (mK BK111.out) k_ hk_)⟩)) (below_size (mD1 GE111.out))); have n1_ := aA (bB BK111.out hb); have n2_ := aA (below_step (mD1 GE111.out) hb); clear BK111 HB; have HO114 := n0_; have BK111 := n1_; have HB := n2_; clear n0_ n1_ n2_; (try clear hb); (try clear hb2); (try clear hk); (try clear hi); (try clear ho0)) | ((with_reducible refine gate_dst (N := 4) rfl ?_); refine box_event ?hg (N := 4) ?hd (cs := #[.slice none 0 0]) (t := 24) ?hr ?_; (case hd => rfl); (case hg => rfl); (case hr => first | (go_simp; done) | (go_simp; rfl)); intro gb116 hg w6 hbox hb; have n0_ := aA (Kd.V_below (Kd.V_elderB (by (with_reducible repeat (first | apply Kd.V_alloc | apply Kd.V_drewN | apply Kd.V_drew)); exact HO114.out) gb116 (Nat.le_of_eq hg.symm)) hb); have n1_ := aA (bB BK111.out hb); have n2_ := aA (below_step (mD1 GE111.out) hb); have n3_ := aA (hbox); have n4_ := aA ((bZ hg (mD1 GE111.out))); have n5_ := aA ((bZ hg (mD1 GE111.out))); have n6_ := aA ((bL hg BK111.out)); have n7_ := aA ((bG hg BK111.out)); clear HO114 BK111 HB; have HO114 := n0_; have BK111 := n1_; have HB := n2_; have BK116 := n3_; have GW116 := n4_; have GE116 := n5_; have NB111_116 := n6_; have NB116_111 := n7_; clear n0_ n1_ n2_ n3_ n4_ n5_ n6_ n7_ hb hbox hg; obtain ⟨Ao7, co7, eo7⟩ := Kd.V_slice HO114.out; subst eo7; have hnb8 := NB116_111.out; have hnc8 := NB111_116.out; have hcz9_0 : w6.cell? ⟨gb116, 0, none⟩ = some (.slice none 0 0) := (blk_cell BK116.out 0).trans rfl; have hfz9_0 := blk_frozen BK116.out 0))
 (try simp only [Act.put, List.setIfInBounds_toArray, List.set_cons_zero, List.set_cons_succ])
 go_cut [19] (fun v19 wc => ∃ (kq : Nat) (x19_2 : Bool), v19 = .bool x19_2 ∧ Aside0 (store_New.j0 kq x19_2 t112 = some (r1, r2, r3, r4, r5, r6)) ∧ Aside0 (kq ≤ k) ∧ Aside0 (Kd.V Kd.string 9 wc w.heap.size (fun k_ => (w.heap.size ≤ k_) ∧ k_ ≠ gb111 ∧ k_ ≠ gb116) (.slice Ao7 t112.length co7) t112) ∧ Aside0 (wc.heap[gb111]? = some (.cells #[(.slice none 0 0), .int .i64 0, .int .i64 0, .int .i64 0, .bool false] 26 (0, 0))) ∧ Aside0 (wc.heap[gb116]? = some (.cells #[(.slice Ao7 t112.length co7)] 24 (0, 0))) ∧ Aside0 (Below w.heap.size w wc))
 case first =>
  have H := HC3.out
  clear HC3
  by_cases c10 : t115 = 0
  ·rw [if_pos c10] at H
   have c10b0 : (t115 == 0) = true := beq_iff_eq.mpr c10
   have c10b1 : (t115 != 0) = false := bne_eq_false_iff_eq.mpr c10
   clear c10
   (first | rw [c10b0] | (simp only [i64_w, i32_w]; rw [c10b0]) | skip)
   have H' := aA H
   clear H
   go_wp2
   go_meet
   case rel => exact ⟨_, (((Int.tmod a0 2) != 0)), (by first | rfl | (simp; done) | (simp [*]; done)), H', ⟨by first | omega | exact Nat.le_refl _⟩, ⟨by (with_reducible repeat (first | apply Kd.V_alloc | apply Kd.V_drewN | apply Kd.V_drew)); exact Kd.V_mono (Kd.V_far (p := ⟨gb116, 0, none⟩) (Kd.V_mono HO114.out (fun k_ hk => (⟨hk, hk.2⟩ : _ ∧ k_ ≠ gb116))) (fun _ hk => hk.2) (.slice Ao7 t112.length co7)) (fun _ hk => ⟨hk.1.1.1, ⟨hk.1.1.2, hk.1.2⟩⟩)⟩, ⟨by (with_reducible repeat (first | refine blk_drewN ?_ _ | refine blk_drew ?_ | refine blk_alloc ?_ _)); refine blk_far ?_ NB111_116.out _; (with_reducible repeat (first | refine blk_drewN ?_ _ | refine blk_drew ?_ | refine blk_alloc ?_ _)); exact BK111.out⟩, ⟨by (with_reducible repeat (first | refine blk_drewN ?_ _ | refine blk_drew ?_ | refine blk_alloc ?_ _)); refine blk_put (cs := #[.slice none 0 0]) ?_ 0 _ rfl; (with_reducible repeat (first | refine blk_drewN ?_ _ | refine blk_drew ?_ | refine blk_alloc ?_ _)); exact BK116.out⟩, ⟨by repeat (first | (with_reducible first | exact HB.out | apply below_alloc | apply pw_below_drewN | apply below_drew1 | refine below_set ?_ GE111.out | refine below_set ?_ GE116.out) | exact HB.out)⟩⟩
  ·rw [if_neg c10] at H
   have c10b0 : (t115 == 0) = false := beq_eq_false_iff_ne.mpr c10
   have c10b1 : (t115 != 0) = true := bne_iff_ne.mpr c10
   (first | rw [c10b0] | (simp only [i64_w, i32_w]; rw [c10b0]) | skip)
   have H' := aA H
   clear H
   go_wp2
   go_meet
   case rel => exact ⟨_, (true), (by first | rfl | (simp; done) | (simp [*]; done)), H', ⟨by first | omega | exact Nat.le_refl _⟩, ⟨by (with_reducible repeat (first | apply Kd.V_alloc | apply Kd.V_drewN | apply Kd.V_drew)); exact Kd.V_mono (Kd.V_far (p := ⟨gb116, 0, none⟩) (Kd.V_mono HO114.out (fun k_ hk => (⟨hk, hk.2⟩ : _ ∧ k_ ≠ gb116))) (fun _ hk => hk.2) (.slice Ao7 t112.length co7)) (fun _ hk => ⟨hk.1.1.1, ⟨hk.1.1.2, hk.1.2⟩⟩)⟩, ⟨by (with_reducible repeat (first | refine blk_drewN ?_ _ | refine blk_drew ?_ | refine blk_alloc ?_ _)); refine blk_far ?_ NB111_116.out _; (with_reducible repeat (first | refine blk_drewN ?_ _ | refine blk_drew ?_ | refine blk_alloc ?_ _)); exact BK111.out⟩, ⟨by (with_reducible repeat (first | refine blk_drewN ?_ _ | refine blk_drew ?_ | refine blk_alloc ?_ _)); refine blk_put (cs := #[.slice none 0 0]) ?_ 0 _ rfl; (with_reducible repeat (first | refine blk_drewN ?_ _ | refine blk_drew ?_ | refine blk_alloc ?_ _)); exact BK116.out⟩, ⟨by repeat (first | (with_reducible first | exact HB.out | apply below_alloc | apply pw_below_drewN | apply below_drew1 | refine below_set ?_ GE111.out | refine below_set ?_ GE116.out) | exact HB.out)⟩⟩
 case rest =>
  clear HC3
  try clear c1
  try clear p2
  try clear c3
  try clear c8
  try clear c10
  try clear c10b0
  try clear c10b1
  try clear hcz9_0
  try clear hfz9_0
  obtain ⟨kq, x19_2, rfl, HA, HJ2, HO_117000, BK111, BK116, HB⟩ := hcut
  cases kq with
  | zero => exact absurd HA.out (by simp [store_New.j0])
  | succ kj2 =>
   have H := HA.out
   clear HA
   simp only [store_New.j0] at H
   by_cases c11 : x19_2 = true
   ·subst c11
    have H1 : (some (([] : List ByteArray), 0, 0, 0, false, 2)) = some (r1, r2, r3, r4, r5, r6) := by rw [if_pos rfl] at H; exact H
    clear H
    have H := H1
    clear H1
    simp only [Option.some.injEq, Prod.mk.injEq] at H
    obtain ⟨rfl, rfl, rfl, rfl, rfl, rfl⟩ := H
    have hnb12 := NB111_116.out
    have hnc12 := NB116_111.out
    obtain ⟨hcz13_0, hcz13_1, hcz13_2, hcz13_3, hcz13_4⟩ := bC5 BK111.out
    obtain ⟨hfz13_0, hfz13_1, hfz13_2, hfz13_3, hfz13_4⟩ := bF5 BK111.out
    go_wp2
    refine bodyPost_ret (results_ct rfl _ _ gb111 26 #[.slice none 0 0, .int .i64 0, .int .i64 0, .int .i64 0, .bool false] (0, 0) _ rfl (by (with_reducible repeat (first | refine blk_drewN ?_ _ | refine blk_drew ?_ | refine blk_alloc ?_ _)); have h_ := BK111.out; exact pK 4 (pK 3 (pK 2 (pK 1 (pK 0 (h_)))))) Try.underlying26 rfl (by kernel_rfl)) rfl ?_
    exact ⟨_, by first | rfl | (simp [errW_none, errW_some] <;> rfl) | (simp [*, errW_none, errW_some] <;> rfl), Kd.V_nil _ _ _ _ _, by repeat (first | (with_reducible first | exact HB.out | apply below_alloc | apply pw_below_drewN | apply below_drew1 | refine below_set ?_ GE111.out | refine below_set ?_ GE116.out) | exact HB.out)⟩
   ·replace c11 := Bool.eq_false_iff.mpr c11
    subst c11
    have H1 : ((seal_Seal.f 1 0 (⟨#[]⟩ : ByteArray)).bind fun bt117 => ((sector_Write.f t112 1 bt117.1).bind fun bt119 => (some (bt119.1, 1, 0, 1, false, 0)))) = some (r1, r2, r3, r4, r5, r6) := by rw [if_neg (show ¬ (false = true) by decide)] at H; exact H
    clear H
    have H := H1
    clear H1
    replace H := Option.bind_eq_some_iff.mp H
    obtain ⟨⟨t117, t118⟩, A140, H⟩ := H
    replace H : ((sector_Write.f t112 1 t117).bind fun bt119 => (some (bt119.1, 1, 0, 1, false, 0))) = some (r1, r2, r3, r4, r5, r6) := H
    have A14 := aA A140
    clear A140
    replace H := Option.bind_eq_some_iff.mp H
    obtain ⟨⟨t119, t122⟩, A150, H⟩ := H
    replace H : (some (t119, 1, 0, 1, false, 0)) = some (r1, r2, r3, r4, r5, r6) := H
    have A15 := aA A150
    clear A150
    simp only [Option.some.injEq, Prod.mk.injEq] at H
    obtain ⟨rfl, rfl, rfl, rfl, rfl, rfl⟩ := H
    go_wp2_with (first | ((with_reducible refine gate_callee (f := 33) rfl ?_); refine goesL_ (some 22) rfl rfl Try.func33 (by kernel_rfl) rfl #[.int .i64 1, .int .i64 0, .string (⟨#[]⟩ : ByteArray)] rfl mS ?_; (with_reducible refine (seal_Seal.calls 1 0 (⟨#[]⟩ : ByteArray) t117 t118 _ A14.out).mono ?_); rintro e w16 ⟨rfl, hb⟩; refine ⟨_, rfl, ?_⟩; have n0_ := aA (Kd.V_below (by (with_reducible repeat (first | apply Kd.V_alloc | apply Kd.V_drewN | apply Kd.V_drew)); exact HO_117000.out) hb); have n1_ := aA (bB BK111.out hb); have n2_ := aA (bB BK116.out hb); have n3_ := aA (below_step (mD2 GE111.out GE116.out) hb); clear HO_117000 BK111 BK116 HB; have HO_117000 := n0_; have BK111 := n1_; have BK116 := n2_; have HB := n3_; clear n0_ n1_ n2_ n3_; (try clear hb); (try clear hb2); (try clear hk); (try clear hi); have hnb17 := NB116_111.out; have hnc17 := NB111_116.out; have hcz18_0 : w16.cell? ⟨gb116, 0, none⟩ = some (.slice Ao7 t112.length co7) := (blk_cell BK116.out 0).trans rfl; have hfz18_0 := blk_frozen BK116.out 0) | ((with_reducible refine gate_callee (f := 34) rfl ?_); refine goesL_ (some 28) rfl rfl Try.func34 (by kernel_rfl) rfl #[.agg #[.slice Ao7 t112.length co7], .int .i64 1, .string t117] rfl mS ?_; (with_reducible refine (sector_Write.calls _ _ t112 1 t117 t119 t122 _ ?side1 ?side2 A15.out).mono ?_); (case side1 => exact mC ((Kd.V_reads' HO_117000.out).2.2)); (case side2 => exact (Kd.V_reads' HO_117000.out).2.1); rintro e w19 ⟨v120, rfl, ho0, hb⟩; refine ⟨_, rfl, ?_⟩; have n0_ := aA (Kd.V_below (by (with_reducible repeat (first | apply Kd.V_alloc | apply Kd.V_drewN | apply Kd.V_drew)); exact HO_117000.out) hb); have n1_ := aA (Kd.V_lower (Kd.V_mono (ok' := fun k_ => (w.heap.size ≤ k_) ∧ k_ ≠ gb111 ∧ k_ ≠ gb116) ho0 (fun k_ hk_ => ⟨(Nat.le_trans (below_size (mD2 GE111.out GE116.out)) hk_), (Kd.freshB (g := gb111) (o := .cells #[.slice none 0 0, .int .i64 0, .int .i64 0, .int .i64 0, .bool false] 26 (0, 0)) (mK BK111.out) k_ hk_), (Kd.freshB (g := gb116) (o := .cells #[.slice Ao7 t112.length co7] 24 (0, 0)) (mK BK116.out) k_ hk_)⟩)) (below_size (mD2 GE111.out GE116.out))); have n2_ := aA (bB BK111.out hb); have n3_ := aA (bB BK116.out hb); have n4_ := aA (below_step (mD2 GE111.out GE116.out) hb); clear HO_117000 BK111 BK116 HB; have HO_117000 := n0_; have HO121 := n1_; have BK111 := n2_; have BK116 := n3_; have HB := n4_; clear n0_ n1_ n2_ n3_ n4_; (try clear hb); (try clear hb2); (try clear hk); (try clear hi); (try clear ho0); obtain ⟨Ao20, co20, eo20⟩ := Kd.V_slice HO121.out; subst eo20; have hcz21_0 : w19.cell? ⟨gb116, 0, none⟩ = some (.slice Ao7 t112.length co7) := (blk_cell BK116.out 0).trans rfl; have hfz21_0 := blk_frozen BK116.out 0; obtain ⟨hcz22_0, hcz22_1, hcz22_2, hcz22_3, hcz22_4⟩ := bC5 BK111.out; obtain ⟨hfz22_0, hfz22_1, hfz22_2, hfz22_3, hfz22_4⟩ := bF5 BK111.out))
    refine bodyPost_ret (results_ct rfl _ _ gb111 26 #[.slice Ao20 t119.length co20, .int .i64 1, .int .i64 0, .int .i64 1, .bool false] (0, 0) _ rfl (by (with_reducible repeat (first | refine blk_drewN ?_ _ | refine blk_drew ?_ | refine blk_alloc ?_ _)); refine blk_put (cs := #[.slice Ao20 t119.length co20, .int .i64 1, .int .i64 0, .int .i64 1, .bool false]) ?_ 4 _ rfl; (with_reducible repeat (first | refine blk_drewN ?_ _ | refine blk_drew ?_ | refine blk_alloc ?_ _)); refine blk_put (cs := #[.slice Ao20 t119.length co20, .int .i64 1, .int .i64 0, .int .i64 0, .bool false]) ?_ 3 _ rfl; (with_reducible repeat (first | refine blk_drewN ?_ _ | refine blk_drew ?_ | refine blk_alloc ?_ _)); refine blk_put (cs := #[.slice Ao20 t119.length co20, .int .i64 1, .int .i64 0, .int .i64 0, .bool false]) ?_ 2 _ rfl; (with_reducible repeat (first | refine blk_drewN ?_ _ | refine blk_drew ?_ | refine blk_alloc ?_ _)); refine blk_put (cs := #[.slice Ao20 t119.length co20, .int .i64 0, .int .i64 0, .int .i64 0, .bool false]) ?_ 1 _ rfl; (with_reducible repeat (first | refine blk_drewN ?_ _ | refine blk_drew ?_ | refine blk_alloc ?_ _)); refine blk_put (cs := #[.slice none 0 0, .int .i64 0, .int .i64 0, .int .i64 0, .bool false]) ?_ 0 _ rfl; (with_reducible repeat (first | refine blk_drewN ?_ _ | refine blk_drew ?_ | refine blk_alloc ?_ _)); refine blk_far ?_ NB111_116.out _; (with_reducible repeat (first | refine blk_drewN ?_ _ | refine blk_drew ?_ | refine blk_alloc ?_ _)); exact BK111.out) Try.underlying26 rfl (by kernel_rfl)) rfl ?_
    exact ⟨_, by first | rfl | (simp [errW_none, errW_some] <;> rfl) | (simp [*, errW_none, errW_some] <;> rfl), by (with_reducible repeat (first | apply Kd.V_alloc | apply Kd.V_drewN | apply Kd.V_drew)); exact Kd.V_mono (Kd.V_far (p := ⟨gb111, 4, none⟩) (Kd.V_far (p := ⟨gb111, 3, none⟩) (Kd.V_far (p := ⟨gb111, 2, none⟩) (Kd.V_far (p := ⟨gb111, 1, none⟩) (Kd.V_far (p := ⟨gb111, 0, none⟩) (Kd.V_far (p := ⟨gb116, 0, none⟩) (Kd.V_mono (Kd.V_mono HO121.out (fun k_ hk => (⟨hk, hk.2.2⟩ : _ ∧ k_ ≠ gb116))) (fun k_ hk => (⟨hk, hk.1.2.1⟩ : _ ∧ k_ ≠ gb111))) (fun _ hk => hk.1.2) (.slice Ao20 t119.length co20)) (fun _ hk => hk.2) (.slice Ao20 t119.length co20)) (fun _ hk => hk.2) (.int .i64 1)) (fun _ hk => hk.2) (.int .i64 0)) (fun _ hk => hk.2) (.int .i64 1)) (fun _ hk => hk.2) (.bool false)) (fun _ hk => hk.1.1.1), by repeat (first | (with_reducible first | exact HB.out | apply below_alloc | apply pw_below_drewN | apply below_drew1 | refine below_set ?_ GE111.out | refine below_set ?_ GE116.out) | exact HB.out)⟩
end Go.Proofs.YtopaddpclipnjaaQ.P
namespace Go.Proofs.YtopaddpclipnjaaQ.P
open Go.RowKit Go.Proofs.YtopaddpclipnjaaW.PrintWords Go.Proofs.YtopaddpclipnjaaW.PrintLast Go.Proofs.YtopaddpclipnjaaW.PrintMore
attribute [local go_sem] max2_int min2_int max_two min_two max_three min_three max_four min_four
def store_hasLog.f (l0_0 : List ByteArray) : Option (Bool) := (sector_Right.f l0_0).bind fun t124 => (if t124 = true then (some (((l0_0.length : Int) % 2) == 0)) else (some false))
set_option maxHeartbeats 8000000 in
set_option maxRecDepth 100000 in
theorem store_hasLog.calls (A0_0 : Option Addr) (c0_0 : Nat) (l0_0 : List ByteArray) (r : Bool) (w : World) (hr0_0 : Kd.C Kd.string w A0_0 l0_0.length l0_0) (hc0_0 : l0_0.length ≤ c0_0) (h : store_hasLog.f l0_0 = some r) :
  Calls Try.prog 35 #[.agg #[.slice A0_0 l0_0.length c0_0]] w fun e w' => e = .returned (.bool r) ∧ Below w.heap.size w w' := by
 have hu24 := Try.underlying24
 have HR0_0 := aA hr0_0
 have HC0_0 := aA hc0_0
 clear hr0_0 hc0_0
 have HB := aA (Below.refl w.heap.size w)
 have H : ((sector_Right.f l0_0).bind fun t124 => (if t124 = true then (some (((l0_0.length : Int) % 2) == 0)) else (some false))) = some r := h
 clear h
 replace H := Option.bind_eq_some_iff.mp H
 obtain ⟨t124, A20, H⟩ := H
 have A2 := aA A20
 clear A20
 by_cases c3 : t124 = true
 ·subst c3
  have H1 : (some (((l0_0.length : Int) % 2) == 0)) = some r := by rw [if_pos rfl] at H; exact H
  clear H
  have H := H1
  clear H1
  obtain rfl := Option.some.inj H
  go_enter Try.func35, Try.ntmps35
  go_wp2_with (first | ((with_reducible refine gate_dst (N := 1) rfl ?_); (try (refine gate_guard (by rfl) ?_; dsimp only)); refine box_event ?hg (N := 1) ?hd (cs := #[.slice A0_0 l0_0.length c0_0]) (t := 24) ?hr ?_; (case hd => rfl); (case hg => rfl); (case hr => first | (go_simp; done) | (go_simp; rfl)); intro gb123 hg w4 hbox hb; have n0_ := aA (below_step mB hb); have n1_ := aA (hbox); have n2_ := aA ((bZ hg mB)); have n3_ := aA ((bZ hg mB)); clear HB; have HB := n0_; have BK123 := n1_; have GW123 := n2_; have GE123 := n3_; clear n0_ n1_ n2_ n3_ hb hbox hg; have hcz5_0 : w4.cell? ⟨gb123, 0, none⟩ = some (.slice A0_0 l0_0.length c0_0) := (blk_cell BK123.out 0).trans rfl; have hfz5_0 := blk_frozen BK123.out 0) | ((with_reducible refine gate_callee (f := 60) rfl ?_); refine goesL_ (some 4) rfl rfl Try.func60 (by kernel_rfl) rfl #[.agg #[.slice A0_0 l0_0.length c0_0]] rfl mS ?_; (with_reducible refine (sector_Right.calls _ _ l0_0 true _ ?side1 ?side2 A2.out).mono ?_); (case side1 => exact mC ((Kd.C_below HR0_0.out HB.out))); (case side2 => exact HC0_0.out); rintro e w6 ⟨rfl, hb⟩; refine ⟨_, rfl, ?_⟩; have n0_ := aA (bB BK123.out hb); have n1_ := aA (below_step (mD1 GE123.out) hb); clear BK123 HB; have BK123 := n0_; have HB := n1_; clear n0_ n1_; (try clear hb); (try clear hb2); (try clear hk); (try clear hi); have hcz7_0 : w6.cell? ⟨gb123, 0, none⟩ = some (.slice A0_0 l0_0.length c0_0) := (blk_cell BK123.out 0).trans rfl; have hfz7_0 := blk_frozen BK123.out 0))
  go_ret
  exact ⟨by first | rfl | (simp [errW_none, errW_some] <;> rfl) | (simp [*, errW_none, errW_some] <;> rfl), by repeat (first | (with_reducible first | exact HB.out | apply below_alloc | apply pw_below_drewN | apply below_drew1 | refine below_set ?_ GE123.out) | exact HB.out)⟩
 ·replace c3 := Bool.eq_false_iff.mpr c3
  subst c3
  have H1 : (some false) = some r := by rw [if_neg (show ¬ (false = true) by decide)] at H; exact H
  clear H
  have H := H1
  clear H1
  obtain rfl := Option.some.inj H
  go_enter Try.func35, Try.ntmps35
  go_wp2_with (first | ((with_reducible refine gate_dst (N := 1) rfl ?_); (try (refine gate_guard (by rfl) ?_; dsimp only)); refine box_event ?hg (N := 1) ?hd (cs := #[.slice A0_0 l0_0.length c0_0]) (t := 24) ?hr ?_; (case hd => rfl); (case hg => rfl); (case hr => first | (go_simp; done) | (go_simp; rfl)); intro gb123 hg w8 hbox hb; have n0_ := aA (below_step mB hb); have n1_ := aA (hbox); have n2_ := aA ((bZ hg mB)); have n3_ := aA ((bZ hg mB)); clear HB; have HB := n0_; have BK123 := n1_; have GW123 := n2_; have GE123 := n3_; clear n0_ n1_ n2_ n3_ hb hbox hg; have hcz9_0 : w8.cell? ⟨gb123, 0, none⟩ = some (.slice A0_0 l0_0.length c0_0) := (blk_cell BK123.out 0).trans rfl; have hfz9_0 := blk_frozen BK123.out 0) | ((with_reducible refine gate_callee (f := 60) rfl ?_); refine goesL_ (some 4) rfl rfl Try.func60 (by kernel_rfl) rfl #[.agg #[.slice A0_0 l0_0.length c0_0]] rfl mS ?_; (with_reducible refine (sector_Right.calls _ _ l0_0 false _ ?side1 ?side2 A2.out).mono ?_); (case side1 => exact mC ((Kd.C_below HR0_0.out HB.out))); (case side2 => exact HC0_0.out); rintro e w10 ⟨rfl, hb⟩; refine ⟨_, rfl, ?_⟩; have n0_ := aA (bB BK123.out hb); have n1_ := aA (below_step (mD1 GE123.out) hb); clear BK123 HB; have BK123 := n0_; have HB := n1_; clear n0_ n1_; (try clear hb); (try clear hb2); (try clear hk); (try clear hi)))
  go_ret
  exact ⟨by first | rfl | (simp [errW_none, errW_some] <;> rfl) | (simp [*, errW_none, errW_some] <;> rfl), by repeat (first | (with_reducible first | exact HB.out | apply below_alloc | apply pw_below_drewN | apply below_drew1 | refine below_set ?_ GE123.out) | exact HB.out)⟩
end Go.Proofs.YtopaddpclipnjaaQ.P
namespace Go.Proofs.YtopaddpclipnjaaQ.P
open Go.RowKit Go.Proofs.YtopaddpclipnjaaW.PrintWords Go.Proofs.YtopaddpclipnjaaW.PrintLast Go.Proofs.YtopaddpclipnjaaW.PrintMore
attribute [local go_sem] max2_int min2_int max_two min_two max_three min_three max_four min_four
def store_area.f (l0_0 : List ByteArray) : Option (Int) := some (wrap64 ((wrap64 ((l0_0.length : Int) / 2)) - 1))
set_option maxHeartbeats 8000000 in
set_option maxRecDepth 100000 in
theorem store_area.calls (A0_0 : Option Addr) (c0_0 : Nat) (l0_0 : List ByteArray) (r : Int) (w : World) (hr0_0 : Kd.C Kd.string w A0_0 l0_0.length l0_0) (hc0_0 : l0_0.length ≤ c0_0) (h : store_area.f l0_0 = some r) :
  Calls Try.prog 37 #[.agg #[.slice A0_0 l0_0.length c0_0]] w fun e w' => e = .returned (.int .i64 r) ∧ Below w.heap.size w w' := by
 have hu24 := Try.underlying24
 have HR0_0 := aA hr0_0
 have HC0_0 := aA hc0_0
 clear hr0_0 hc0_0
 have HB := aA (Below.refl w.heap.size w)
 have H : (some (wrap64 ((wrap64 ((l0_0.length : Int) / 2)) - 1))) = some r := h
 clear h
 obtain rfl := Option.some.inj H
 go_enter Try.func37, Try.ntmps37
 go_wp2_with (first | ((with_reducible refine gate_dst (N := 1) rfl ?_); refine box_event ?hg (N := 1) ?hd (cs := #[.slice A0_0 l0_0.length c0_0]) (t := 24) ?hr ?_; (case hd => rfl); (case hg => rfl); (case hr => first | (go_simp; done) | (go_simp; rfl)); intro gb125 hg w2 hbox hb; have n0_ := aA (below_step mB hb); have n1_ := aA (hbox); have n2_ := aA ((bZ hg mB)); have n3_ := aA ((bZ hg mB)); clear HB; have HB := n0_; have BK125 := n1_; have GW125 := n2_; have GE125 := n3_; clear n0_ n1_ n2_ n3_ hb hbox hg; have hcz3_0 : w2.cell? ⟨gb125, 0, none⟩ = some (.slice A0_0 l0_0.length c0_0) := (blk_cell BK125.out 0).trans rfl; have hfz3_0 := blk_frozen BK125.out 0))
 go_ret
 exact ⟨by first | rfl | (simp [errW_none, errW_some] <;> rfl) | (simp [*, errW_none, errW_some] <;> rfl), by repeat (first | (with_reducible first | exact HB.out | apply below_alloc | apply pw_below_drewN | apply below_drew1 | refine below_set ?_ GE125.out) | exact HB.out)⟩
end Go.Proofs.YtopaddpclipnjaaQ.P
namespace Go.Proofs.YtopaddpclipnjaaQ.P
open Go.RowKit Go.Proofs.YtopaddpclipnjaaW.PrintWords Go.Proofs.YtopaddpclipnjaaW.PrintLast Go.Proofs.YtopaddpclipnjaaW.PrintMore
attribute [local go_sem] max2_int min2_int max_two min_two max_three min_three max_four min_four
def store_place.f (l0_0 : List ByteArray) (a1 : Int) (a2 : Int) : Option (Int) := (store_area.f l0_0).bind fun t127 => (some (wrap64 ((wrap64 (2 + (wrap64 ((Int.tmod a1 2) * t127)))) + a2)))
set_option maxHeartbeats 8000000 in
set_option maxRecDepth 100000 in
theorem store_place.calls (A0_0 : Option Addr) (c0_0 : Nat) (l0_0 : List ByteArray) (a1 : Int) (a2 : Int) (r : Int) (w : World) (hr0_0 : Kd.C Kd.string w A0_0 l0_0.length l0_0) (hc0_0 : l0_0.length ≤ c0_0) (h : store_place.f l0_0 a1 a2 = some r) :
  Calls Try.prog 38 #[.agg #[.slice A0_0 l0_0.length c0_0], .int .i64 a1, .int .i64 a2] w fun e w' => e = .returned (.int .i64 r) ∧ Below w.heap.size w w' := by
 have hu24 := Try.underlying24
 have HR0_0 := aA hr0_0
 have HC0_0 := aA hc0_0
 clear hr0_0 hc0_0
 have HB := aA (Below.refl w.heap.size w)
 have H : ((store_area.f l0_0).bind fun t127 => (some (wrap64 ((wrap64 (2 + (wrap64 ((Int.tmod a1 2) * t127)))) + a2)))) = some r := h
 clear h
 replace H := Option.bind_eq_some_iff.mp H
 obtain ⟨t127, A40, H⟩ := H
 have A4 := aA A40
 clear A40
 obtain rfl := Option.some.inj H
 go_enter Try.func38, Try.ntmps38
 go_wp2_with (first | ((with_reducible refine gate_dst (N := 3) rfl ?_); refine box_event ?hg (N := 3) ?hd (cs := #[.slice A0_0 l0_0.length c0_0]) (t := 24) ?hr ?_; (case hd => rfl); (case hg => rfl); (case hr => first | (go_simp; done) | (go_simp; rfl)); intro gb126 hg w5 hbox hb; have n0_ := aA (below_step mB hb); have n1_ := aA (hbox); have n2_ := aA ((bZ hg mB)); have n3_ := aA ((bZ hg mB)); clear HB; have HB := n0_; have BK126 := n1_; have GW126 := n2_; have GE126 := n3_; clear n0_ n1_ n2_ n3_ hb hbox hg; have hcz6_0 : w5.cell? ⟨gb126, 0, none⟩ = some (.slice A0_0 l0_0.length c0_0) := (blk_cell BK126.out 0).trans rfl; have hfz6_0 := blk_frozen BK126.out 0) | ((with_reducible refine gate_callee (f := 37) rfl ?_); refine goesL_ (some 10) rfl rfl Try.func37 (by kernel_rfl) rfl #[.agg #[.slice A0_0 l0_0.length c0_0]] rfl mS ?_; (with_reducible refine (store_area.calls _ _ l0_0 t127 _ ?side1 ?side2 A4.out).mono ?_); (case side1 => exact mC ((Kd.C_below HR0_0.out HB.out))); (case side2 => exact HC0_0.out); rintro e w7 ⟨rfl, hb⟩; refine ⟨_, rfl, ?_⟩; have n0_ := aA (bB BK126.out hb); have n1_ := aA (below_step (mD1 GE126.out) hb); clear BK126 HB; have BK126 := n0_; have HB := n1_; clear n0_ n1_; (try clear hb); (try clear hb2); (try clear hk); (try clear hi)))
 go_ret
 exact ⟨by first | rfl | (simp [errW_none, errW_some] <;> rfl) | (simp [*, errW_none, errW_some] <;> rfl), by repeat (first | (with_reducible first | exact HB.out | apply below_alloc | apply pw_below_drewN | apply below_drew1 | refine below_set ?_ GE126.out) | exact HB.out)⟩
end Go.Proofs.YtopaddpclipnjaaQ.P
