/- Part 1 of a proof: contracts and plain laws of what the statement reaches. No condition. -/
import Derived.Test.YtndgollcganhmaaDoorProg
import Derived.Lib.LaidTab
import Derived.Lib.AppendIntMem
import Derived.Below
import Derived.WalkKit
import Derived.Deep.Draws
import Derived.Deep.AppendLies
import Derived.Maps.AppendAt
import Derived.OwnWalk
import Derived.Laws.BytesArg
import Derived.Laws.MakeOwn
import Derived.Laws.OwnMore
import Derived.Deep.OwnRows
import Derived.Tactics
import Derived.Lib.ConvBytes
import Derived.Laws.Slices
import Derived.KernelRfl
import Derived.RowKit3
import Derived.Deep.LoopGhost
import Derived.Deep.QuietTactic
import Derived.BigQuiet
import Derived.WideLaws
import Derived.Deep.DeepCutAuto
import Derived.Deep.CutBlock
import Derived.Deep.RegionHeld3
import Derived.Laws.Rows
import Derived.Lib.AppendStr
import Derived.ArgAppend
import Derived.Laws.IdiomCopy
import Derived.OrdersHeld
import Derived.Laws.BitsLemmas
import Derived.RowKit
import Derived.Test.YtndgollcganhmaaDoorWWords
import Derived.Test.YtndgollcganhmaaDoorWLast
import Derived.Test.YtndgollcganhmaaDoorWTab
import Derived.Test.YtndgollcganhmaaDoorWFour
import Derived.Test.YtndgollcganhmaaDoorWQPut
import Derived.Test.YtndgollcganhmaaDoorWApart
import Derived.Test.YtndgollcganhmaaDoorWArr
import Derived.Test.YtndgollcganhmaaDoorWZeros
import Derived.Test.YtndgollcganhmaaDoorWFoot
import Derived.Test.YtndgollcganhmaaDoorWKept
import Derived.Test.YtndgollcganhmaaDoorWShare
import Derived.Test.YtndgollcganhmaaDoorWN
import Derived.Test.YtndgollcganhmaaDoorWFootNe
import Derived.Test.YtndgollcganhmaaDoorWAt
import Derived.Test.YtndgollcganhmaaDoorWEqStruct
import Derived.Test.YtndgollcganhmaaDoorWRepsOne
import Derived.Test.YtndgollcganhmaaDoorWInv
import Derived.Test.YtndgollcganhmaaDoorWInvWords
import Derived.Test.YtndgollcganhmaaDoorWGuard
import Derived.Test.YtndgollcganhmaaDoorWNEv
import Derived.Test.YtndgollcganhmaaDoorWMore
import Derived.Lib.Hide
import Derived.Lib.Strings
import Derived.ProofKit
import Derived.OpenShut
import Derived.SliceStrings
import Derived.Shelf.SlSortCmp.SmallK
import Derived.Test.YtndgollcganhmaaDoorChecked
import Derived.LoopTactic
import Derived.Outline
import Derived.Laws.RangeAny
import Derived.Shelf.Abstract
import Derived.WalkLawsBesides
import Derived.WalkSpells
import Derived.Laws.CopyOwn
import Derived.Lib.UnsafeStr
import Derived.Shelf.Strings.Builder1
import Derived.Shelf.Strings.Builder2
import Derived.Shelf.Strings.BuilderF
import Derived.Shelf.Strings.BuilderK
import Derived.Shelf.Strings.Builder2Cap
import Derived.Shelf.Strconv.Itoa0
import Derived.Shelf.Strconv.Itoa1
import Derived.Shelf.LaysM
import Derived.Shelf.Strconv.Itoa2
import Derived.Shelf.Strings.Prefix
import Derived.Shelf.Bits.Mul64
import Derived.Shelf.Strings.Repeat
import Derived.Shelf.Strings.BuilderCap
set_option linter.unusedVariables false
set_option linter.unusedSimpArgs false
/- The library's tables that the statements' rows list, as a fact of a world that what grows keeps. -/
namespace Go.Proofs.YtndgollcganhmaaDoorQ
open Go Go.RowKit
def tab_math_bits_deBruijn64tab : List Int := [0, 1, 56, 2, 57, 49, 28, 3, 61, 58, 42, 50, 38, 29, 17, 4, 62, 47, 59, 36, 45, 43, 51, 22, 53, 39, 33, 30, 24, 18, 12, 5, 63, 55, 48, 27, 60, 41, 37, 16, 46, 35, 44, 21, 52, 32, 23, 11, 54, 26, 40, 15, 34, 20, 31, 10, 25, 14, 19, 9, 13, 8, 7, 6]
def tab_internal_strconv_uint64pow10 : List Int := [1, 10, 100, 1000, 10000, 100000, 1000000, 10000000, 100000000, 1000000000, 10000000000, 100000000000, 1000000000000, 10000000000000, 100000000000000, 1000000000000000, 10000000000000000, 100000000000000000, 1000000000000000000, 10000000000000000000]
def GOK (w : World) : Prop := Lib.TabIs Tryd.prog w "math/bits.deBruijn64tab" .u8 tab_math_bits_deBruijn64tab ∧ Lib.TabIs Tryd.prog w "internal/strconv.uint64pow10" .u64 tab_internal_strconv_uint64pow10 ∧ True
theorem gok_below {w W : World} (h : GOK w) (hb : Below w.heap.size w W) : GOK W := ⟨Lib.tabBelow_of_tabIs h.1 _ hb, Lib.tabBelow_of_tabIs h.2.1 _ hb, trivial⟩
theorem gok_tab_math_bits_deBruijn64tab {w : World} (h : GOK w) : Lib.TabIs Tryd.prog w "math/bits.deBruijn64tab" .u8 tab_math_bits_deBruijn64tab := h.1
theorem gok_tab_internal_strconv_uint64pow10 {w : World} (h : GOK w) : Lib.TabIs Tryd.prog w "internal/strconv.uint64pow10" .u64 tab_internal_strconv_uint64pow10 := h.2.1
end Go.Proofs.YtndgollcganhmaaDoorQ
/- Printed by the kit's printer, with my stubs, for this claim. -/
namespace Go.Proofs.YtndgollcganhmaaDoorQ.P
open Go.RowKit Go.Proofs.YtndgollcganhmaaDoorW.PrintWords Go.Proofs.YtndgollcganhmaaDoorW.PrintLast Go.Proofs.YtndgollcganhmaaDoorW.PrintMore
attribute [local go_sem] max2_int min2_int max_two min_two max_three min_three max_four min_four   -- for this text's walks alone



def errW : Option Int → Value
  | none => .nilIface
  | some c => .iface 0 (.int .i64 c)
theorem errW_none : errW none = .nilIface := rfl
theorem errW_some (c : Int) : errW (some c) = .iface 0 (.int .i64 c) := rfl

theorem info5 : (Tryd.prog.info? 5).map (fun i => (i.zero, i.size, i.bytes)) = some (some (.int .u8 0), 1, 1) := by kernel_rfl
theorem info41 : (Tryd.prog.info? 41).map (fun i => (i.zero, i.size, i.bytes)) = some (some (.agg #[(.string ⟨#[]⟩), (.string ⟨#[]⟩)]), 2, 32) := by kernel_rfl
-- the values' own types
/-! #### struct type 41 -/
structure S41 where
  f0 : ByteArray
  f1 : ByteArray
def z41 : S41 := ⟨(⟨#[]⟩ : ByteArray), (⟨#[]⟩ : ByteArray)⟩
def k41 : Kd S41 := Kd.iso (Kd.pair Kd.string Kd.string) (fun x : S41 => (x.f0, x.f1))
theorem k41_open {w : World} {x : S41} {cs : List Value} (h : k41.K w x cs) : cs = [.string x.f0, .string x.f1] := by
  obtain ⟨_, _, rfl, rfl, rfl⟩ := h
  exact rfl
theorem k41_openM {w : World} {base : Nat} {ok : Nat → Prop} {x : S41} {cs : List Value} (h : k41.M w base ok x cs) : cs = [.string x.f0, .string x.f1] := by
  obtain ⟨_, _, rfl, rfl, rfl⟩ := h
  exact rfl
theorem k41_mk (w : World) (x : S41)  : k41.K w x [.string x.f0, .string x.f1] := ⟨[.string x.f0], [.string x.f1], rfl, rfl, rfl⟩
theorem k41_mkM (w : World) (base : Nat) (ok : Nat → Prop) (x : S41)  : k41.M w base ok x [.string x.f0, .string x.f1] := ⟨[.string x.f0], [.string x.f1], rfl, rfl, rfl⟩
def rd_T41 (xs : List S41) (i : Int) : S41 := xs.getD i.toNat z41
theorem at_T41 {w : World} {A : Option Addr} {n : Nat} {xs : List S41} (h : Kd.C k41 w A n xs) (i : Int) (h0 : 0 ≤ i) (h1 : i < n) : ∃ ad , A = some ad ∧ w.cell? (ad.add (i.toNat * 2)) = some (.string (rd_T41 xs i).f0) ∧ w.cell? ⟨(ad.add (i.toNat * 2)).block, (ad.add (i.toNat * 2)).off + 1, none⟩ = some (.string (rd_T41 xs i).f1) := by
  obtain ⟨ad, c, e, _, hK, hc0⟩ := Kd.C_get h z41 i h0 h1
  have hc : ∀ j u, c[j]? = some u → w.cell? (ad.add (i.toNat * 2 + j)) = some u := hc0
  obtain rfl := k41_open hK
  exact ⟨ad, e, hc 0 _ rfl, by rw [← add_field _ _ 1 (by omega)]; exact hc 1 _ rfl⟩

end Go.Proofs.YtndgollcganhmaaDoorQ.P
/- Plain facts on worlds: blocks, cells, what stays. No program in sight. -/
namespace Go.Proofs.YtndgollcganhmaaDoor
open Go.RowKit
section
variable {W W' w w1 w2 : World} {g j : Nat} {cs : Array Value} {T : TypeId} {fr : Nat × Nat} {v : Value}
theorem blk_new (W : World) (o : Obj) : (W.alloc o).heap[W.heap.size]? = some o := heap_alloc_new W o
theorem blk_lt {o : Obj} (h : W.heap[g]? = some o) : g < W.heap.size := (Array.getElem?_eq_some_iff.1 h).1
theorem blk_cell (h : W.heap[g]? = some (.cells cs T fr)) (hv : cs[j]? = some v) : W.cell? ⟨g, j, none⟩ = some v := by
  simp [World.cell?, h, hv]
theorem blk_free (h : W.heap[g]? = some (.cells cs T (0, 0))) (j : Nat) : W.frozen? ⟨g, j, none⟩ = false := by
  simp [World.frozen?, h]
theorem blk_below {B : Nat} (hb : Below B W W') (hg : g < B) {o : Obj} (h : W.heap[g]? = some o) : W'.heap[g]? = some o := (hb.block g hg).trans h
theorem blk_alloc (o' : Obj) {o : Obj} (h : W.heap[g]? = some o) : (W.alloc o').heap[g]? = some o := (Below.heap_alloc W o' g (blk_lt h)).trans h
theorem size_alloc (W : World) (o : Obj) : (W.alloc o).heap.size = W.heap.size + 1 := by simp
theorem blk_new2 (W : World) (o1 o2 : Obj) : ((W.alloc o1).alloc o2).heap[W.heap.size + 1]? = some o2 := by
  have := blk_new (W.alloc o1) o2
  rwa [size_alloc] at this
theorem blk_new1 (W : World) (o1 o2 : Obj) : ((W.alloc o1).alloc o2).heap[W.heap.size]? = some o1 := (Below.heap_alloc (W.alloc o1) o2 W.heap.size (by rw [size_alloc]; omega)).trans (blk_new W o1)
theorem cell_alloc2 (W : World) (o1 o2 : Obj) {b j : Nat} (hb : b < W.heap.size) : ((W.alloc o1).alloc o2).cell? ⟨b, j, none⟩ = W.cell? ⟨b, j, none⟩ :=
  World.cell?_of_block ((Below.heap_alloc (W.alloc o1) o2 b (by rw [size_alloc]; omega)).trans (Below.heap_alloc W o1 b hb))
theorem blk_call (hb : Below W.heap.size W W') {o : Obj} (h : W.heap[g]? = some o) : W'.heap[g]? = some o := blk_below hb (blk_lt h) h
theorem blk_set (h : W.heap[g]? = some (.cells cs T fr)) (j : Nat) (v : Value) : (W.setCell ⟨g, j, none⟩ v).heap[g]? = some (.cells (cs.setIfInBounds j v) T fr) := by
  simp [World.setCell, Array.getElem?_modify, h]
theorem blk_set_far {o : Obj} (h : W.heap[g]? = some o) {a : Addr} (ha : g ≠ a.block) (v : Value) : (W.setCell a v).heap[g]? = some o := (Below.heap_setCell W a v g ha).trans h
theorem bel {w w1 w2 : World} (h : Below w.heap.size w w1) (k : Below w1.heap.size w1 w2) : Below w.heap.size w w2 := h.trans ⟨k.os, k.tape, k.output, k.size, fun i hi => k.block i (Nat.lt_of_lt_of_le hi h.size)⟩
theorem bels {B : Nat} {w w1 w2 : World} (h : Below B w w1) (hB : B ≤ w1.heap.size) (k : Below w1.heap.size w1 w2) : Below B w w2 := h.trans ⟨k.os, k.tape, k.output, k.size, fun i hi => k.block i (Nat.lt_of_lt_of_le hi hB)⟩
theorem bcell {W w1 : World} (hb : Below W.heap.size W w1) : (∀ b o, b < W.heap.size → w1.cell? ⟨b, o, none⟩ = W.cell? ⟨b, o, none⟩) ∧ (∀ b o, b < W.heap.size → w1.frozen? ⟨b, o, none⟩ = W.frozen? ⟨b, o, none⟩) :=
  ⟨fun b o h => hb.cell (p := ⟨b, o, none⟩) h, fun b o h => hb.frozen (p := ⟨b, o, none⟩) h⟩
theorem bal {w w1 : World} (h : Below w.heap.size w w1) (o : Obj) : Below w.heap.size w (w1.alloc o) := h.alloc h.size o
theorem size_lt {B n : Nat} {w w1 : World} (h : Below B w w1) (hn : n < w.heap.size) : n < w1.heap.size := Nat.lt_of_lt_of_le hn h.size
theorem bset {B : Nat} {a w : World} (h : Below B a w) {p : Addr} (hp : B ≤ p.block) (u : Value) : Below B a (w.setCell p u) := h.setCell hp u
theorem bdn {B : Nat} {a w : World} (h : Below B a w) (n : Nat) : Below B a (w.drewN n) := h.trans ⟨rfl, rfl, rfl, Nat.le_refl _, fun _ _ => rfl⟩
theorem bytes_below {B : Nat} {a w : World} (h : Below B a w) (hB : B ≤ w.heap.size) (e : TypeId) (s : ByteArray) : Below B a (Lib.bytesWorld w e s) :=
  h.trans ⟨rfl, rfl, rfl, by rw [Lib.bytesWorld_size]; omega, fun k hk => Lib.bytesWorld_at_old w e s k (by omega)⟩
theorem bytes_free (W : World) (e : TypeId) (t : ByteArray) (j : Nat) (hj : j < t.size) : (Lib.bytesWorld W e t).frozen? ⟨W.heap.size, j, none⟩ = false := by
  have hsz : t.size ≤ (Lib.bytesCells W e t).size := by
    unfold Lib.bytesCells
    rw [Array.size_append, Array.size_map]
    exact Nat.le_add_right _ _
  simp only [World.frozen?, Lib.bytesWorld_at_new]
  rw [Bool.and_eq_false_iff]
  left
  simp only [decide_eq_false_iff_not]
  omega
theorem cell_set_same (h : (W.cell? ⟨g, j, none⟩).isSome = true) (v : Value) : (W.setCell ⟨g, j, none⟩ v).cell? ⟨g, j, none⟩ = some v := World.cell?_setCell_same' W _ v h
theorem cell_set_other (W : World) {a b : Addr} (h : b ≠ a) (ha : b.spot = none) (hb : a.spot = none) (v : Value) : (W.setCell a v).cell? b = W.cell? b := by
  obtain ⟨g, j, s⟩ := a
  obtain ⟨g', j', s'⟩ := b
  simp only at ha hb
  subst ha hb
  simp only [World.cell?, World.setCell, Array.getElem?_modify]
  by_cases hg : g = g'
  · subst hg
    have hj : j ≠ j' := fun e => h (by rw [e])
    cases hh : W.heap[g]? with
    | none => simp [hh]
    | some o => cases o <;> simp [hh, Array.getElem?_setIfInBounds, hj]
  · simp [hg]
theorem frozen_set (W : World) (a b : Addr) (v : Value) : (W.setCell a v).frozen? b = W.frozen? b := by
  simp only [World.frozen?, World.setCell, Array.getElem?_modify]
  by_cases hg : a.block = b.block
  · rw [hg]
    cases hh : W.heap[b.block]? with
    | none => simp [hh]
    | some o => cases o <;> simp [hh]
  · simp [hg]
end
theorem ret_int {k : IntKind} {a b : Int} (h : a = b) : Ending.returned (.int k a) = .returned (.int k b) := by rw [h]
theorem ret_str {a b : ByteArray} (h : a = b) : Ending.returned (.string a) = .returned (.string b) := by rw [h]
theorem ret_bool {a b : Bool} (h : a = b) : Ending.returned (.bool a) = .returned (.bool b) := by rw [h]
theorem len_data (t : ByteArray) : t.data.toList.length = t.size := by rw [Array.length_toList]; rfl
theorem bytes_of_eq {a b : ByteArray} (h : (a.toList == b.toList) = true) : a = b := by
  rw [ByteArray.toList_eq, ByteArray.toList_eq] at h
  apply ByteArray.ext
  exact Array.toList_inj.1 (by simpa using h)
theorem bytes_ne {a b : ByteArray} (h : a ≠ b) : (a.toList == b.toList) = false := by
  cases e : (a.toList == b.toList)
  · rfl
  · exact absurd (bytes_of_eq e) h
theorem bytes_eq_self (a : ByteArray) : (a.toList == a.toList) = true := by simp
theorem ext0_all (s : ByteArray) (n : Nat) (h : s.size ≤ n) : s.extract 0 n = s := by
  apply ByteArray.ext
  rw [ByteArray.data_extract]
  apply Array.extract_eq_self_of_le
  exact h
end Go.Proofs.YtndgollcganhmaaDoor
/- Slices that are read: their elements lie as cells, one behind the other. No program in sight. -/
namespace Go.Proofs.YtndgollcganhmaaDoor
open Go.RowKit
/-- v is a slice of n elements of sz cells each; these are its cells. -/
def SlAt (W : World) (v : Value) (sz n : Nat) (cells : List Value) : Prop :=
  cells.length = n * sz ∧ ∃ a c, v = .slice a n c ∧ n ≤ c ∧ n ≤ maxLen ∧ (n = 0 ∨ ∃ b o, a = some ⟨b, o, none⟩ ∧ b < W.heap.size ∧ ∀ j u, cells[j]? = some u → W.cell? ⟨b, o + j, none⟩ = some u)
section
variable {W W' : World} {v : Value} {sz n : Nat} {cells : List Value}
theorem SlAt.stay (h : SlAt W v sz n cells) (hb : Below W.heap.size W W') : SlAt W' v sz n cells := by
  obtain ⟨hl, a, c, hv, h1, h2, h3⟩ := h
  refine ⟨hl, a, c, hv, h1, h2, ?_⟩
  rcases h3 with h3 | ⟨b, o, ha, hlt, hc⟩
  · exact .inl h3
  · exact .inr ⟨b, o, ha, Nat.lt_of_lt_of_le hlt hb.size, fun j u hu => (hb.cell (p := ⟨b, o + j, none⟩) hlt).trans (hc j u hu)⟩
theorem SlAt.form (h : SlAt W v sz n cells) : ∃ a c, v = .slice a n c ∧ n ≤ c ∧ n ≤ maxLen := by
  obtain ⟨_, a, c, hv, h1, h2, _⟩ := h
  exact ⟨a, c, hv, h1, h2⟩
theorem SlAt.nil (W : World) (sz : Nat) : SlAt W (.slice none 0 0) sz 0 [] := ⟨by simp, none, 0, rfl, Nat.le_refl _, Nat.zero_le _, .inl rfl⟩
theorem SlAt.le (h : SlAt W v sz n cells) : n ≤ maxLen := by
  obtain ⟨a, c, _, h1, h2⟩ := h.form
  omega
/-- The address of a slice that has an element, and its cells. -/
theorem SlAt.at {a : Option Addr} {c : Nat} (h : SlAt W (.slice a n c) sz n cells) (hn : 0 < n) : ∃ b o, a = some ⟨b, o, none⟩ ∧ b < W.heap.size ∧ ∀ j u, cells[j]? = some u → W.cell? ⟨b, o + j, none⟩ = some u := by
  obtain ⟨_, a', c', hv, _, _, h3⟩ := h
  injection hv with e1 e2 e3
  subst e1
  rcases h3 with h3 | h3
  · omega
  · exact h3
theorem SlAt.of_own {base : Nat} {e : TypeId} (h : W.ownsRow base e sz v n cells) (hm : n ≤ maxLen) : SlAt W v sz n cells := by
  rcases h.2 with ⟨hv, h0⟩ | ⟨g, cap, cur, hv, hb, hg, h1, h2, hs, ht⟩
  · subst h0
    exact ⟨h.1, none, 0, hv, Nat.le_refl _, Nat.zero_le _, .inl rfl⟩
  · refine ⟨h.1, some ⟨g, 0, none⟩, cap, hv, h1, hm, .inr ⟨g, 0, rfl, blk_lt hg, fun j u hu => ?_⟩⟩
    have := h.cells (g := g) (by rw [hv]; rfl) j u hu
    have hadd : (⟨g, 0, none⟩ : Addr).add j = ⟨g, 0 + j, none⟩ := by unfold Addr.add; split <;> simp_all
    rwa [hadd] at this
end
/-- A slice that lies in memory from a block on. -/
def FreshV (B : Nat) (v : Value) : Prop := ∀ b, v.ownBlock = some b → B ≤ b
theorem FreshV.mono {B B' : Nat} {v : Value} (h : FreshV B v) (hB : B' ≤ B) : FreshV B' v := fun b hb => Nat.le_trans hB (h b hb)
theorem FreshV.nil (B : Nat) (l c : Nat) : FreshV B (.slice none l c) := fun b hb => by simp [Value.ownBlock] at hb
theorem FreshV.of_own {W : World} {B : Nat} {e : TypeId} {v : Value} {sz n : Nat} {cells : List Value} (h : W.ownsRow B e sz v n cells) : FreshV B v := fun b hb => (h.lt b hb).1
theorem SlAt.store {W : World} {v : Value} {sz n : Nat} {cells : List Value} (h : SlAt W v sz n cells) {p : Addr} (hne : ∀ b, v.ownBlock = some b → b ≠ p.block) (u : Value) : SlAt (W.setCell p u) v sz n cells := by
  obtain ⟨hl, a, c, hv, h1, h2, h3⟩ := h
  refine ⟨hl, a, c, hv, h1, h2, ?_⟩
  rcases h3 with h3 | ⟨b, o, ha, hlt, hc⟩
  · exact .inl h3
  · refine .inr ⟨b, o, ha, by simpa [World.setCell] using hlt, fun j u' hu => ?_⟩
    have hb : b ≠ p.block := hne b (by rw [hv, ha]; rfl)
    have : (W.setCell p u).cell? ⟨b, o + j, none⟩ = W.cell? ⟨b, o + j, none⟩ := World.cell?_of_block (Below.heap_setCell W p u b hb)
    rw [this]
    exact hc j u' hu
theorem SlAt.alloc {W : World} {v : Value} {sz n : Nat} {cells : List Value} (h : SlAt W v sz n cells) (o : Obj) : SlAt (W.alloc o) v sz n cells := h.stay (bal (Below.refl _ _) _)
/-- Texts as cells. -/
def strs (xs : List ByteArray) : List Value := xs.map Value.string
theorem strs_len (xs : List ByteArray) : (strs xs).length = xs.length := by simp [strs]
theorem strs_get (xs : List ByteArray) (i : Nat) (h : i < xs.length) : (strs xs)[i]? = some (.string xs[i]) := by simp [strs, h]
/-- The first place of which something holds; -1: there is none. -/
def idxOf {α : Type} (p : α → Bool) (xs : List α) : Int := match xs.findIdx? p with | some i => i | none => -1
theorem idxOf_found {α : Type} {p : α → Bool} {xs : List α} {i : Nat} (h : i < xs.length) (hp : p xs[i] = true) (hn : ∀ j (hj : j < i), p (xs[j]'(by omega)) = false) : idxOf p xs = i := by
  unfold idxOf
  have : xs.findIdx? p = some i := by
    rw [List.findIdx?_eq_some_iff_getElem]
    exact ⟨h, hp, fun j hj => by simp [hn j hj]⟩
  rw [this]
theorem idxOf_none {α : Type} {p : α → Bool} {xs : List α} (hn : ∀ j (hj : j < xs.length), p xs[j] = false) : idxOf p xs = -1 := by
  unfold idxOf
  have : xs.findIdx? p = none := by
    rw [List.findIdx?_eq_none_iff]
    intro x hx
    obtain ⟨j, hj, rfl⟩ := List.mem_iff_getElem.1 hx
    exact hn j hj
  rw [this]
theorem idxOf_any {α : Type} (p : α → Bool) (xs : List α) : decide (0 ≤ idxOf p xs) = xs.any p := by
  unfold idxOf
  cases h : xs.findIdx? p with
  | none =>
    rw [List.findIdx?_eq_none_iff] at h
    have : xs.any p = false := by
      rw [List.any_eq_false]
      intro x hx
      simp [h x hx]
    rw [this]
    rfl
  | some i =>
    have : xs.any p = true := by
      rw [List.findIdx?_eq_some_iff_getElem] at h
      obtain ⟨hi, hp, _⟩ := h
      exact List.any_eq_true.2 ⟨_, List.getElem_mem hi, hp⟩
    rw [this]
    simp
/-! ### disks -/
def badSize (x : ByteArray) : Bool := (x.size : Int) != 128
def rightD (xs : List ByteArray) : Bool := decide (10 ≤ xs.length) && decide (xs.length ≤ 130) && !xs.any badSize
/-- Why a sector is not there; 0: it is. -/
def mayD (xs : List ByteArray) (i : Int) : Int := if rightD xs = false then 1 else if 0 ≤ i ∧ i < xs.length then 0 else 3
theorem mayD_no {xs : List ByteArray} (h : rightD xs = false) (i : Int) : mayD xs i = 1 := by unfold mayD; rw [if_pos h]
theorem mayD_in {xs : List ByteArray} (h : rightD xs = true) {i : Int} (h0 : 0 ≤ i) (h1 : i < xs.length) : mayD xs i = 0 := by unfold mayD; rw [if_neg (by simp [h]), if_pos ⟨h0, h1⟩]
theorem mayD_out {xs : List ByteArray} (h : rightD xs = true) {i : Int} (h0 : i < 0 ∨ xs.length ≤ i) : mayD xs i = 3 := by unfold mayD; rw [if_neg (by simp [h]), if_neg (by omega)]
def readD (xs : List ByteArray) (i : Int) : ByteArray := if mayD xs i = 0 then xs.getD i.toNat ByteArray.empty else ⟨#[]⟩
theorem mayD_zero {xs : List ByteArray} {i : Int} (h : mayD xs i = 0) : rightD xs = true ∧ 0 ≤ i ∧ i < xs.length := by
  unfold mayD at h
  split at h
  · omega
  · rename_i h1
    split at h
    · rename_i h2
      exact ⟨by simpa using h1, h2⟩
    · omega
theorem mayD_cases (xs : List ByteArray) (i : Int) : mayD xs i = 0 ∨ mayD xs i = 1 ∨ mayD xs i = 3 := by
  unfold mayD
  split
  · exact .inr (.inl rfl)
  · split
    · exact .inl rfl
    · exact .inr (.inr rfl)
theorem rightD_sizes {xs : List ByteArray} (h : rightD xs = true) : 10 ≤ xs.length ∧ xs.length ≤ 130 ∧ ∀ x ∈ xs, x.size = 128 := by
  unfold rightD at h
  simp only [Bool.and_eq_true, decide_eq_true_eq, Bool.not_eq_true', List.any_eq_false, Bool.not_eq_true] at h
  refine ⟨h.1.1, h.1.2, fun x hx => ?_⟩
  have := h.2 x hx
  unfold badSize at this
  simp at this
  omega
/-- One text over another one, as far as k. -/
def over (x t : ByteArray) (k : Nat) : ByteArray := ⟨(t.data.toList.take k ++ x.data.toList.drop k).toArray⟩
def tearE (xs : List ByteArray) (i : Int) (t : ByteArray) (k : Int) : Int :=
  if mayD xs i ≠ 0 then mayD xs i else if t.size ≠ 128 then 2 else if k < 0 ∨ 128 < k then 1 else 0
def tearL (xs : List ByteArray) (i : Int) (t : ByteArray) (k : Int) : List ByteArray :=
  if tearE xs i t k = 0 then xs.set i.toNat (over (xs.getD i.toNat ByteArray.empty) t k.toNat) else []
end Go.Proofs.YtndgollcganhmaaDoor
/- Laws for the walk over a slice that the call itself makes by append. No program in sight. -/
namespace Go.Proofs.YtndgollcganhmaaDoor
open Go.RowKit
section
variable {P : Program} {ops : Array Oper} {rest : List Oper} {o : Oper} {a : Act} {Q : Exit → Act → World → Prop} {K : Act → World → Prop} {W w0 w1 : World} {v : Value} {e : TypeId} {B n sz : Nat} {xs : List Value}
theorem row_block {k : Nat} (h : W.ownsRow B e sz v n xs) (hk : v.ownBlock = some k) : B ≤ k := (h.lt k hk).1
theorem row_drew (h : W.ownsRow B e sz v n xs) : W.drew.ownsRow B e sz v n xs := h
/-- What lies below the row's first block stays. -/
theorem keep_row {g : Nat} {ob : Obj} (hg : W.grownBy w1 v.ownBlock) (HO : W.ownsRow B e sz v n xs) (hlt : g < B) (h : W.heap[g]? = some ob) : w1.heap[g]? = some ob :=
  (hg.block g (blk_lt h) (fun hk => absurd (row_block HO hk.symm) (by omega))).trans h
theorem bel_row {b : Nat} (hb : Below b w0 W) (hbW : b ≤ W.heap.size) (HO : W.ownsRow B e sz v n xs) (hB : b ≤ B) (hg : W.grownBy w1 v.ownBlock) : Below b w0 w1 :=
  hb.grown hg hbW (fun k hk => Nat.le_trans hB (row_block HO hk))
theorem row_form (h : W.ownsRow B e sz v n xs) : ∃ A c, v = .slice A n c := by
  rcases h.2 with ⟨rfl, rfl⟩ | ⟨g, cap, cur, rfl, _⟩
  · exact ⟨none, 0, rfl⟩
  · exact ⟨_, cap, rfl⟩
theorem row_facts {g cap : Nat} (h : W.ownsRow B e sz (.slice (some ⟨g, 0, none⟩) n cap) n xs) : g < W.heap.size ∧ n ≤ cap ∧ cap ≤ maxLen := by
  rcases h.2 with ⟨hv, _⟩ | ⟨g', cap', cur, hv, _, hg, h1, h2, _⟩
  · cases hv
  · injection hv with e1 _ e3
    injection e1 with e1
    injection e1 with e1
    subst e1 e3
    exact ⟨blk_lt hg, h1, h2⟩
theorem row_store {p : Addr} (h : W.ownsRow B e sz v n xs) (hp : p.block < B) (u : Value) : (W.setCell p u).ownsRow B e sz v n xs := by
  refine ⟨h.1, ?_⟩
  rcases h.2 with h2 | ⟨g, cap, cur, rfl, hb, hg, r⟩
  · exact .inl h2
  · exact .inr ⟨g, cap, cur, rfl, hb, (Below.heap_setCell W p u g (by omega)).trans hg, r⟩
theorem row_bel {w2 : World} (h : W.ownsRow B e sz v n xs) (hb : Below W.heap.size W w2) : w2.ownsRow B e sz v n xs := by
  refine ⟨h.1, ?_⟩
  rcases h.2 with h2 | ⟨g, cap, cur, rfl, hb', hg, r⟩
  · exact .inl h2
  · exact .inr ⟨g, cap, cur, rfl, hb', blk_call hb hg, r⟩
theorem size_set (W : World) (p : Addr) (u : Value) : (W.setCell p u).heap.size = W.heap.size := by simp [World.setCell]
theorem row_empty (W : World) {H : Nat} (hH : W.heap.size = H) (h : B ≤ H) : (W.alloc (.cells #[] e)).ownsRow B e sz (.slice (some ⟨H, 0, none⟩) 0 0) 0 [] := by
  subst hH
  have := World.ownsRow_lit (base := B) (e := e) (size := sz) W #[] 0 h (Nat.zero_le _) (by simp)
  simpa using this
theorem run_app1 (t ty : TypeId) (z : Value) (bytes : Nat) (ht : P.underlying t = some (.slice e)) (hinfo : (P.info? e).map (fun i => (i.zero, i.size, i.bytes)) = some (some z, sz, bytes)) (hz : z.cells.size = sz) (hs0 : 0 < sz) (hb0 : 0 < bytes)
    (ys : List Value) (hys : ys.length = sz) (h1 : ∀ u ∈ ys, u.oneCell' = true) (HO : W.ownsRow B e sz v n xs) (hbase : B ≤ W.heap.size) (hl : (n + 1) * bytes ≤ 140737488355328) :
    ∃ g cap w1, (Builtin.append_ #[t, t] ty #[v, .slice (some ⟨W.heap.size, 0, none⟩) 1 1]).run P (W.alloc (.cells ys.toArray e)) = .ok (.slice (some ⟨g, 0, none⟩) (n + 1) cap) w1 ∧ w1.ownsRow B e sz (.slice (some ⟨g, 0, none⟩) (n + 1) cap) (n + 1) (xs ++ ys) ∧ B ≤ g ∧ g < w1.heap.size ∧ W.grownBy w1 v.ownBlock := by
  obtain ⟨i0, hi, hzz⟩ := Option.map_eq_some_iff.1 hinfo
  simp only [Prod.mk.injEq] at hzz
  obtain ⟨hz0, hz1, hz2⟩ := hzz
  have hlen : n + 1 ≤ 140737488355328 := Nat.le_trans (Nat.le_mul_of_pos_right _ hb0) hl
  obtain ⟨v1, w1, hr, hown, hg, _, hat⟩ := run_append_own_at (P := P) (W.alloc (.cells ys.toArray e)) B t ty e i0 z sz bytes ht hi hz0 hz1 hz2 hz hs0 v n xs (HO.alloc _) ⟨W.heap.size, 0, none⟩ 1 1 ys (by rw [hys]; simp)
    (by simpa using World.news_of_block (cs := ys.toArray) (t := e) (fr := (0, 0)) (heap_alloc_new W (.cells ys.toArray e))) h1 (by simp only [maxLen]; omega) hl (by simp; omega)
  obtain ⟨g, cap, rfl, h3, h4⟩ := hown.form (by omega)
  exact ⟨g, cap, w1, hr, hown, h3, h4, World.grownBy.trans (World.grownBy_alloc W _ _) hg⟩
/-- append(s, x): in a plain region. -/
theorem ev_app1 (hgd : o.guard = none) (s x : Operand) (t : TypeId) (ho : o.op = .call { callee := .builtin .append, args := #[s, x], argTypes := #[t, t] })
    (z : Value) (bytes : Nat) (ht : P.underlying t = some (.slice e)) (hinfo : (P.info? e).map (fun i => (i.zero, i.size, i.bytes)) = some (some z, sz, bytes)) (hz : z.cells.size = sz) (hs0 : 0 < sz) (hb0 : 0 < bytes)
    (ys : List Value) (hs : a.eval s = v) (hx : a.eval x = .slice (some ⟨W.heap.size, 0, none⟩) 1 1) (hys : ys.length = sz) (h1 : ∀ u ∈ ys, u.oneCell' = true) (HO : W.ownsRow B e sz v n xs) (hbase : B ≤ W.heap.size) (hl : (n + 1) * bytes ≤ 140737488355328)
    (h : ∀ g cap w1, Hid (w1.ownsRow B e sz (.slice (some ⟨g, 0, none⟩) (n + 1) cap) (n + 1) (xs ++ ys)) → B ≤ g → g < w1.heap.size → W.grownBy w1 v.ownBlock → wpList P ops Q rest (a.put o.dst (.slice (some ⟨g, 0, none⟩) (n + 1) cap)) w1) : wpList P ops Q (o :: rest) a (W.alloc (.cells ys.toArray e)) := by
  refine wpList_plain hgd fun K hK => ?_
  obtain ⟨g, cap, w1, hr, hown, hB, hlt, hg⟩ := run_app1 (P := P) t o.type z bytes ht hinfo hz hs0 hb0 ys hys h1 HO hbase hl
  unfold Oper.wp execOp
  simp only [ho, resolve, invoke, builtin, Sem.run_bind, Sem.run_pure, Result.andThen_ok, List.map_toArray, List.map_cons, List.map_nil, hs, hx, hr]
  exact hK _ _ (h g cap w1 hown hB hlt hg)
/-- append(s, x): as a step of a region that draws its order. -/
theorem st_app1 {E : Prop} (hgd : o.guard = none) (s x : Operand) (t : TypeId) (ho : o.op = .call { callee := .builtin .append, args := #[s, x], argTypes := #[t, t] })
    (z : Value) (bytes : Nat) (ht : P.underlying t = some (.slice e)) (hinfo : (P.info? e).map (fun i => (i.zero, i.size, i.bytes)) = some (some z, sz, bytes)) (hz : z.cells.size = sz) (hs0 : 0 < sz) (hb0 : 0 < bytes)
    (ys : List Value) (hs : a.eval s = v) (hx : a.eval x = .slice (some ⟨W.heap.size, 0, none⟩) 1 1) (hys : ys.length = sz) (h1 : ∀ u ∈ ys, u.oneCell' = true) (HO : W.ownsRow B e sz v n xs) (hbase : B ≤ W.heap.size) (hl : (n + 1) * bytes ≤ 140737488355328)
    (h : ∀ g cap w1, Hid (w1.ownsRow B e sz (.slice (some ⟨g, 0, none⟩) (n + 1) cap) (n + 1) (xs ++ ys)) → B ≤ g → g < w1.heap.size → W.grownBy w1 v.ownBlock → K (a.put o.dst (.slice (some ⟨g, 0, none⟩) (n + 1) cap)) w1) : if Region.wanted o (yielded ops a.tmps) = true then Oper.wp P o a (W.alloc (.cells ys.toArray e)) K Q else E := by
  have hw : Region.wanted o (yielded ops a.tmps) = true := by simp [Region.wanted, hgd]
  rw [if_pos hw]
  obtain ⟨g, cap, w1, hr, hown, hB, hlt, hg⟩ := run_app1 (P := P) t o.type z bytes ht hinfo hz hs0 hb0 ys hys h1 HO hbase hl
  unfold Oper.wp execOp
  simp only [ho, resolve, invoke, builtin, Sem.run_bind, Sem.run_pure, Result.andThen_ok, List.map_toArray, List.map_cons, List.map_nil, hs, hx, hr]
  exact h g cap w1 hown hB hlt hg
end
end Go.Proofs.YtndgollcganhmaaDoor
/- A world that has grown: what was there is as it was. The walk sees through it. No program in sight. -/
namespace Go.Proofs.YtndgollcganhmaaDoor
open Go.RowKit
/-- How a world has grown. -/
structure Ext (w : World) where
  W : World
  bel : Below w.heap.size w W
instance (w : World) : Nonempty (Ext w) := ⟨⟨w, Below.refl _ _⟩⟩
def ext (w : World) (x : Ext w) : World := x.W
def more {w : World} (x : Ext w) : Nat := x.W.heap.size - w.heap.size
def cellX {w : World} (x : Ext w) (a : Addr) : Option Value := x.W.cell? a
def frozenX {w : World} (x : Ext w) (a : Addr) : Bool := x.W.frozen? a
section
variable {w w1 W : World}
theorem ext_bel (w : World) (x : Ext w) : Below w.heap.size w (ext w x) := x.bel
theorem ext_of (h : Below w.heap.size w W) : ∃ x, W = ext w x := ⟨⟨W, h⟩, rfl⟩
theorem ext_size (x : Ext w) : (ext w x).heap.size = w.heap.size + more x := by
  have := x.bel.size
  unfold ext more
  omega
theorem ext_cell (x : Ext w) (b o : Nat) : (ext w x).cell? ⟨b, o, none⟩ = if b < w.heap.size then w.cell? ⟨b, o, none⟩ else cellX x ⟨b, o, none⟩ := by
  split
  · rename_i h
    exact x.bel.cell (p := ⟨b, o, none⟩) h
  · rfl
theorem ext_frozen (x : Ext w) (b o : Nat) : (ext w x).frozen? ⟨b, o, none⟩ = if b < w.heap.size then w.frozen? ⟨b, o, none⟩ else frozenX x ⟨b, o, none⟩ := by
  split
  · rename_i h
    exact x.bel.frozen (p := ⟨b, o, none⟩) h
  · rfl
theorem alloc_cell (W : World) (cs : Array Value) (T : TypeId) (fr : Nat × Nat) (b o : Nat) : (W.alloc (.cells cs T fr)).cell? ⟨b, o, none⟩ = if b < W.heap.size then W.cell? ⟨b, o, none⟩ else if b = W.heap.size then cs[o]? else none := by
  split
  · rename_i h
    exact World.cell?_of_block (Below.heap_alloc W _ b h)
  · rename_i h
    split
    · rename_i h2
      subst h2
      simp only [World.cell?, blk_new]
      rfl
    · rename_i h2
      simp only [World.cell?]
      rw [Array.getElem?_eq_none (by rw [size_alloc]; omega)]
theorem alloc_frozen (W : World) (cs : Array Value) (T : TypeId) (b o : Nat) : (W.alloc (.cells cs T (0, 0))).frozen? ⟨b, o, none⟩ = if b < W.heap.size then W.frozen? ⟨b, o, none⟩ else false := by
  split
  · rename_i h
    exact World.frozen?_of_block (Below.heap_alloc W _ b h)
  · rename_i h
    by_cases h2 : b = W.heap.size
    · subst h2
      simp only [World.frozen?, blk_new]
      simp
    · simp only [World.frozen?]
      rw [Array.getElem?_eq_none (by rw [size_alloc]; omega)]
theorem set_cell (W : World) (g j b o : Nat) (v : Value) : (W.setCell ⟨g, j, none⟩ v).cell? ⟨b, o, none⟩ = if b = g then if o = j then (W.cell? ⟨b, o, none⟩).map fun _ => v else W.cell? ⟨b, o, none⟩ else W.cell? ⟨b, o, none⟩ := by
  split
  · rename_i h
    subst h
    split
    · rename_i h
      subst h
      cases hc : W.cell? ⟨b, o, none⟩ with
      | some u => rw [cell_set_same (by rw [hc]; rfl)]; rfl
      | none =>
        simp only [World.cell?] at hc
        simp only [World.cell?, World.setCell, Array.getElem?_modify]
        cases hh : W.heap[b]? with
        | none => simp
        | some ob =>
          rw [hh] at hc
          cases ob <;> simp_all
    · rename_i h
      exact cell_set_other W (by intro e; injection e; omega) rfl rfl v
  · rename_i h
    exact cell_set_other W (by intro e; injection e; omega) rfl rfl v
theorem set_frozen (W : World) (a : Addr) (b o : Nat) (v : Value) : (W.setCell a v).frozen? ⟨b, o, none⟩ = W.frozen? ⟨b, o, none⟩ := frozen_set W a _ v
theorem drew_cell (W : World) (a : Addr) : W.drew.cell? a = W.cell? a := rfl
theorem drew_size (W : World) : W.drew.heap.size = W.heap.size := rfl
theorem lt_more {a b c : Nat} (h : a < b) : (a < b + c) = True := eq_true (by omega)
theorem lt_suc {a b : Nat} : (a < a + 1 + b) = True := eq_true (by omega)
theorem le_more {a b c : Nat} (h : a ≤ b) : (a ≤ b + c) = True := eq_true (by omega)
theorem le_lt {a b : Nat} (h : a < b) : (a ≤ b) = True := eq_true (by omega)
theorem bext (h : Below w.heap.size w w1) (x : Ext w1) : Below w.heap.size w (ext w1 x) := bel h x.bel
theorem bdr (h : Below w.heap.size w w1) : Below w.heap.size w w1.drew := h.drew
theorem bdrN (h : Below w.heap.size w w1) (n : Nat) : Below w.heap.size w (w1.drewN n) := bdn h n
theorem bst (h : Below w.heap.size w w1) {p : Addr} (u : Value) (hp : w.heap.size ≤ p.block) : Below w.heap.size w (w1.setCell p u) := bset h hp u
theorem drew_ext (w : World) : ∃ x, w.drew = ext w x := ext_of (Below.refl _ _).drew
/-- The class of the worlds that have grown out of one. -/
def Grew (w : World) (w' : World) : Prop := ∃ x, w' = ext w x
theorem Grew.of_bel {w w' : World} (h : Below w.heap.size w w') : Grew w w' := ext_of h
theorem ext_ext (x : Ext w) (y : Ext (ext w x)) : ∃ z, ext (ext w x) y = ext w z := ext_of (bext (ext_bel w x) y)
variable {P : Program}
/-- A region that draws its order, that only reads, and whose calls leave what was there as it was: the order of the text serves. -/
theorem wp_region_ext {id : Nat} {Q : Exit → Act → World → Prop} {a : Act} {w : World} {l : List Oper} (hm : P.follows .mixedOrders = true) (hB : Region.lexB .any l.toArray = true)
    (h : wpQuiet P l.toArray (fun w' => ∃ x, w' = ext w x) (fun a' => ∀ w', (∃ x, w' = ext w x) → Q .normal a' w') l a) : (Code.region id l.toArray true).wp P Q a w :=
  wp_region_quiet (C := fun w' => ∃ x, w' = ext w x) hm hB (drew_ext w) (by simpa using h)
theorem same_bel {f : FuncId} {args : Array Value} {v : Value} (h : Calls P f args w fun e w' => e = .returned v ∧ w = w') : Calls P f args w fun e w' => e = .returned v ∧ Below w.heap.size w w' :=
  h.mono fun _ _ ⟨he, hm⟩ => ⟨he, hm ▸ Below.refl _ _⟩
/-- The world is given a name. -/
theorem name_world {c : Code} {Q : Exit → Act → World → Prop} {a : Act} {W : World} (h : ∀ W5, W5 = W → c.wp P Q a W5) : c.wp P Q a W := h W rfl
/-- Grown twice is grown. -/
theorem join_ext {c : Code} {Q : Exit → Act → World → Prop} {a : Act} {x : Ext w} {y : Ext (ext w x)} (h : ∀ z, c.wp P Q a (ext w z)) : c.wp P Q a (ext (ext w x) y) := by
  obtain ⟨z, hz⟩ := ext_ext x y
  rw [hz]
  exact h z
/-- A contract, met in a world that has grown. -/
theorem Calls.grew {f : FuncId} {args : Array Value} {x : Ext w} {v : Value}
    (h : Calls P f args (ext w x) fun e w' => e = .returned v ∧ Below (ext w x).heap.size (ext w x) w') : Calls P f args (ext w x) fun e w'' => e = .returned v ∧ ∃ m, w'' = ext w m :=
  h.mono fun _ _ ⟨he, hm⟩ => ⟨he, ext_of (bel x.bel hm)⟩
theorem Calls.grew_same {f : FuncId} {args : Array Value} {x : Ext w} {v : Value}
    (h : Calls P f args (ext w x) fun e w' => e = .returned v ∧ ext w x = w') : Calls P f args (ext w x) fun e w'' => e = .returned v ∧ ∃ m, w'' = ext w m :=
  h.mono fun _ _ ⟨he, hm⟩ => ⟨he, x, hm.symm⟩
end
end Go.Proofs.YtndgollcganhmaaDoor
/- Labels and matchers, plain. No program in sight. -/
namespace Go.Proofs.YtndgollcganhmaaDoor
open Go.RowKit
def azB (b : UInt8) : Bool := decide (97 ≤ b.toNat) && decide (b.toNat ≤ 122)
def avB (b : UInt8) : Bool := azB b || (decide (48 ≤ b.toNat) && decide (b.toNat ≤ 57)) || decide (b.toNat = 45)
def nameB (s : ByteArray) : Bool := s.data.toList.all azB && decide (1 ≤ s.size) && decide (s.size ≤ 8)
def valB (s : ByteArray) : Bool := s.data.toList.all avB && decide (s.size ≤ 8)
theorem all_bad {p : UInt8 → Bool} {s : ByteArray} {k : Nat} (h : k < s.size) (hp : p (s[k]'h) = false) : s.data.toList.all p = false := by
  rw [List.all_eq_false]
  exact ⟨_, Array.getElem_mem_toList (xs := s.data) h, by rw [show s.data[k]'h = s[k]'h from rfl, hp]; simp⟩
theorem all_good {p : UInt8 → Bool} {s : ByteArray} (h : ∀ k (hk : k < s.size), p (s[k]'hk) = true) : s.data.toList.all p = true := by
  rw [List.all_eq_true]
  intro x hx
  obtain ⟨k, hk, rfl⟩ := List.mem_iff_getElem.1 hx
  exact h k (by simpa [len_data] using hk)
structure Lab where
  name : ByteArray
  value : ByteArray
deriving DecidableEq
def labC (x : Lab) : List Value := [.string x.name, .string x.value]
def labV (x : Lab) : Value := .agg #[.string x.name, .string x.value]
def labB (x : Lab) : Bool := nameB x.name && valB x.value
structure Mat where
  kind : Int
  name : ByteArray
  value : ByteArray
deriving DecidableEq
def matC (x : Mat) : List Value := [.int .i64 x.kind, .string x.name, .string x.value]
def matV (x : Mat) : Value := .agg #[.int .i64 x.kind, .string x.name, .string x.value]
def matB (x : Mat) : Bool := decide (0 ≤ x.kind) && decide (x.kind ≤ 3) && nameB x.name && valB x.value && (decide (x.kind ≠ 3) || decide (x.value.size = 0))
def labsC (xs : List Lab) : List Value := xs.flatMap labC
def matsC (xs : List Mat) : List Value := xs.flatMap matC
theorem flat_get {α : Type} {en : α → List Value} {sz : Nat} (hsz : ∀ x, (en x).length = sz) : ∀ (xs : List α) (i j : Nat) (h : i < xs.length), j < sz → (xs.flatMap en)[i * sz + j]? = (en xs[i])[j]?
  | x :: xs, 0, j, h, hj => by
    rw [List.flatMap_cons, List.getElem?_append_left (by rw [hsz]; omega)]
    simp
  | x :: xs, i + 1, j, h, hj => by
    rw [List.flatMap_cons, List.getElem?_append_right (by rw [hsz, Nat.succ_mul]; omega)]
    have e : (i + 1) * sz + j - (en x).length = i * sz + j := by rw [hsz, Nat.succ_mul]; omega
    rw [e, flat_get hsz xs i j (by simpa using h) hj]
    simp
theorem flat_len {α : Type} {en : α → List Value} {sz : Nat} (hsz : ∀ x, (en x).length = sz) (xs : List α) : (xs.flatMap en).length = xs.length * sz := by
  induction xs with
  | nil => simp
  | cons x xs ih => rw [List.flatMap_cons, List.length_append, ih, hsz, List.length_cons, Nat.succ_mul]; omega
theorem labs_get (xs : List Lab) (i : Nat) (h : i < xs.length) : (labsC xs)[i * 2]? = some (.string xs[i].name) ∧ (labsC xs)[i * 2 + 1]? = some (.string xs[i].value) :=
  ⟨flat_get (en := labC) (sz := 2) (fun _ => rfl) xs i 0 h (by omega), flat_get (en := labC) (sz := 2) (fun _ => rfl) xs i 1 h (by omega)⟩
theorem mats_get (xs : List Mat) (i : Nat) (h : i < xs.length) : (matsC xs)[i * 3]? = some (.int .i64 xs[i].kind) ∧ (matsC xs)[i * 3 + 1]? = some (.string xs[i].name) ∧ (matsC xs)[i * 3 + 2]? = some (.string xs[i].value) :=
  ⟨flat_get (en := matC) (sz := 3) (fun _ => rfl) xs i 0 h (by omega), flat_get (en := matC) (sz := 3) (fun _ => rfl) xs i 1 h (by omega), flat_get (en := matC) (sz := 3) (fun _ => rfl) xs i 2 h (by omega)⟩
/-! ### texts in order -/
def ltS (s t : ByteArray) : Bool := Op.bytesLess s.toList t.toList
def cmpS (s t : ByteArray) : Int := if ltS s t = true then -1 else if (s.toList == t.toList) = true then 0 else 1
theorem cmpS_lt {s t : ByteArray} (h : ltS s t = true) : cmpS s t = -1 := by unfold cmpS; rw [if_pos h]
theorem cmpS_ge {s t : ByteArray} (h : ltS s t = false) : 0 ≤ cmpS s t := by
  unfold cmpS
  rw [if_neg (by simp [h])]
  split <;> omega
theorem bytes_lt_self : ∀ l : List UInt8, Op.bytesLess l l = false
  | [] => rfl
  | a :: l => by simp [Op.bytesLess, bytes_lt_self l]
theorem bytes_lt_trans : ∀ a b c : List UInt8, Op.bytesLess a b = true → Op.bytesLess b c = true → Op.bytesLess a c = true
  | _, [], _, h, _ => by cases ‹List UInt8› <;> simp [Op.bytesLess] at h
  | [], _ :: _, [], _, h => by simp [Op.bytesLess] at h
  | [], _ :: _, _ :: _, _, _ => rfl
  | _ :: _, _ :: _, [], _, h => by simp [Op.bytesLess] at h
  | x :: a, y :: b, z :: c, h1, h2 => by
    simp only [Op.bytesLess, Bool.or_eq_true, Bool.and_eq_true, decide_eq_true_eq, beq_iff_eq] at h1 h2 ⊢
    rcases h1 with h1 | ⟨rfl, h1⟩
    · rcases h2 with h2 | ⟨rfl, h2⟩
      · exact .inl (UInt8.lt_trans h1 h2)
      · exact .inl h1
    · rcases h2 with h2 | ⟨rfl, h2⟩
      · exact .inl h2
      · exact .inr ⟨rfl, bytes_lt_trans a b c h1 h2⟩
theorem bytes_lt_total : ∀ a b : List UInt8, Op.bytesLess a b = true ∨ a = b ∨ Op.bytesLess b a = true
  | [], [] => .inr (.inl rfl)
  | [], _ :: _ => .inl rfl
  | _ :: _, [] => .inr (.inr rfl)
  | x :: a, y :: b => by
    simp only [Op.bytesLess, Bool.or_eq_true, Bool.and_eq_true, decide_eq_true_eq, beq_iff_eq]
    by_cases h : x < y
    · exact .inl (.inl h)
    · by_cases h' : y < x
      · exact .inr (.inr (.inl h'))
      · have e : x = y := UInt8.le_antisymm (UInt8.not_lt.1 h') (UInt8.not_lt.1 h)
        subst e
        rcases bytes_lt_total a b with h | rfl | h
        · exact .inl (.inr ⟨rfl, h⟩)
        · exact .inr (.inl rfl)
        · exact .inr (.inr (.inr ⟨rfl, h⟩))
theorem ltS_self (s : ByteArray) : ltS s s = false := bytes_lt_self _
theorem ltS_trans {a b c : ByteArray} (h1 : ltS a b = true) (h2 : ltS b c = true) : ltS a c = true := bytes_lt_trans _ _ _ h1 h2
theorem ltS_total (a b : ByteArray) : ltS a b = true ∨ a = b ∨ ltS b a = true := by
  rcases bytes_lt_total a.toList b.toList with h | h | h
  · exact .inl h
  · exact .inr (.inl (bytes_of_eq (by rw [h]; simp)))
  · exact .inr (.inr h)
theorem ltS_asym {a b : ByteArray} (h : ltS a b = true) : ltS b a = false := by
  cases h' : ltS b a
  · rfl
  · have := ltS_trans h h'
    rw [ltS_self] at this
    exact this.symm
/-- Names in order, each one less than the next. -/
def risesB : List Lab → Bool
  | x :: y :: r => ltS x.name y.name && risesB (y :: r)
  | _ => true
theorem rises_all : ∀ {xs : List Lab}, (∀ i (h : i + 1 < xs.length), ltS xs[i].name xs[i + 1].name = true) → risesB xs = true
  | [], _ => rfl
  | [_], _ => rfl
  | x :: y :: r, h => by
    unfold risesB
    rw [show ltS x.name y.name = true from h 0 (by simp), Bool.true_and]
    exact rises_all fun i hi => h (i + 1) (by simpa using hi)
theorem rises_at : ∀ {xs : List Lab}, risesB xs = true → ∀ i (h : i + 1 < xs.length), ltS xs[i].name xs[i + 1].name = true
  | x :: y :: r, h, 0, _ => by
    unfold risesB at h
    rw [Bool.and_eq_true] at h
    exact h.1
  | x :: y :: r, h, i + 1, hi => by
    unfold risesB at h
    rw [Bool.and_eq_true] at h
    exact rises_at h.2 i (by simpa using hi)
theorem rises_bad {xs : List Lab} {i : Nat} (h : i + 1 < xs.length) (hb : ltS xs[i].name xs[i + 1].name = false) : risesB xs = false := by
  cases e : risesB xs
  · rfl
  · rw [rises_at e i h] at hb
    exact hb
def eachB (xs : List Lab) : Bool := decide (1 ≤ xs.length) && decide (xs.length ≤ 3) && !xs.any (fun x => !labB x)
def labsB (xs : List Lab) : Bool := risesB xs && eachB xs
/-! ### matching -/
def ofB (k : Int) (v a : ByteArray) : Bool := if k = 0 then v.toList == a.toList else if k = 1 then !(v.toList == a.toList) else if k = 2 then Lib.hasPrefix v.data.toList a.data.toList else true
def isOf (m : Mat) (x : Lab) : Bool := x.name.toList == m.name.toList
def matchB (m : Mat) (xs : List Lab) : Bool := match xs.find? (isOf m) with | none => decide (m.kind = 1) | some x => ofB m.kind x.value m.value
def allB (ms : List Mat) (xs : List Lab) : Bool := !ms.any (fun m => !matchB m xs)
def allE (ms : List Mat) (xs : List Lab) : Int := if labsB xs = true ∧ ms.length ≤ 4 ∧ ms.any (fun m => !matB m) = false then 0 else 1
theorem idx_find {α : Type} (p : α → Bool) : ∀ xs : List α, (idxOf p xs = -1 ∧ xs.find? p = none) ∨ ∃ i, ∃ h : i < xs.length, idxOf p xs = i ∧ xs.find? p = some xs[i]
  | [] => .inl ⟨rfl, rfl⟩
  | x :: xs => by
    by_cases hx : p x = true
    · refine .inr ⟨0, by simp, ?_, by simp [hx]⟩
      exact idxOf_found (i := 0) (by simp) hx (fun j hj => absurd hj (by omega))
    · have hx' : p x = false := by simpa using hx
      rcases idx_find p xs with ⟨h1, h2⟩ | ⟨i, h, h1, h2⟩
      · refine .inl ⟨?_, by simp [hx', h2]⟩
        refine idxOf_none fun j hj => ?_
        cases j with
        | zero => exact hx'
        | succ j =>
          have hj' : j < xs.length := by simpa using hj
          have h3 := List.find?_eq_none.1 h2 xs[j] (List.getElem_mem hj')
          simpa using h3
      · refine .inr ⟨i + 1, by simpa using h, ?_, by simp [hx', h2]⟩
        have h3 := List.find?_eq_some_iff_getElem.1 h2
        obtain ⟨hp, k, hk, hke, hkn⟩ := h3
        unfold idxOf at h1 ⊢
        rw [List.findIdx?_cons, hx']
        cases hq : xs.findIdx? p with
        | none => rw [hq] at h1; exact absurd h1 (by simp)
        | some q =>
          rw [hq] at h1
          simp at h1 ⊢
          omega
end Go.Proofs.YtndgollcganhmaaDoor
/- Slices as they come in are opened: what is readable lies as cells, element behind element. No program in sight. -/
namespace Go.Proofs.YtndgollcganhmaaDoor
open Go.RowKit Go.ChangeShapes Go.WideShapes Go.ChangeAt
theorem add_off (b o j : Nat) : (⟨b, o, none⟩ : Addr).add j = ⟨b, o + j, none⟩ := by unfold Addr.add; split <;> simp_all
section
variable {H : Type} {enc : TypeId × Value → H} {P : Program} {W : World} {r : Reach} {base bb : Nat} {spare : Nat → Bool} {held : Bool} {t e : TypeId} {v : Value} {d : DataW H} {p : List MemPlace}
theorem cell_spot {a : Addr} {u : Value} (h : W.cell? a = some u) : a.spot = none := by
  unfold World.cell? at h
  split at h
  · split at h
    · cases h
    · rename_i hs
      cases hsp : a.spot with
      | none => rfl
      | some x => simp [hsp] at hs
  · cases h
theorem sl_of_trod {sz : Nat} (ht : P.underlying t = some (.slice e)) (hsz : P.cellsOf e = sz) (h0 : 0 < sz) (h : DataW.Trod enc P W base spare held t v d p) (hv : ∃ a l c, v = .slice a l c) :
    ∃ n cells, SlAt W v sz n cells ∧ ∀ i, i < n → ∃ f y, DataW.trod enc P W base spare held f e ((cells.drop (i * sz)).take sz) = some y := by
  obtain ⟨a0, l0, c0, rfl⟩ := hv
  obtain ⟨fuel, hf⟩ := h
  rcases DataW.trod_slice ht hf with ⟨hcs, _⟩ | ⟨a, len, cap, elems, rest, n, _, hcs, _, hb, hl, hm, hlen, hel, _, _⟩
  · have hcs' : [Value.slice a0 l0 c0] = [.slice none 0 0] := hcs
    injection hcs' with e1 _
    injection e1 with e1 e2 e3
    subst e1 e2 e3
    exact ⟨0, [], SlAt.nil _ _, fun i hi => absurd hi (by omega)⟩
  · have hcs' : [Value.slice a0 l0 c0] = [.slice (some a) len cap] := hcs
    injection hcs' with e1 _
    injection e1 with e1 e2 e3
    subst e1 e2 e3
    rw [hsz] at hel
    have each : ∀ i, i < l0 → ∃ cs y, W.cells? base (a.add (i * sz)) sz = some cs ∧ DataW.trod enc P W base spare held n e cs = some y := by
      intro i hi
      have h1 := hel i hi
      rw [List.getElem?_eq_getElem (by omega)] at h1
      obtain ⟨cs, h2, h3⟩ := Option.bind_eq_some_iff.1 h1
      exact ⟨cs, _, h2, h3⟩
    have hadd : ∀ i j, (a.add i).add j = a.add (i + j) := by
      intro i j
      unfold Addr.add
      by_cases h1 : i = 0 <;> by_cases h2 : j = 0 <;> simp [h1, h2, Nat.add_assoc]
    have hcell : ∀ j, j < l0 * sz → ∃ u, W.cell? (a.add j) = some u := by
      intro j hj
      have hi : j / sz < l0 := (Nat.div_lt_iff_lt_mul h0).2 hj
      obtain ⟨cs, y, h2, _⟩ := each (j / sz) hi
      obtain ⟨_, h4, h5⟩ := World.cells?_some h2
      have hr : j % sz < sz := Nat.mod_lt _ h0
      have h6 := h5 (j % sz) hr
      rw [hadd, Nat.div_add_mod' j sz] at h6
      exact ⟨_, h6.trans (List.getElem?_eq_getElem (by omega))⟩
    have hj' : ∀ j, j < l0 * sz → W.cell? (a.add j) = some ((W.cell? (a.add j)).getD undef) := by
      intro j hj
      obtain ⟨u, hu⟩ := hcell j hj
      rw [hu]
      rfl
    refine ⟨l0, (List.range (l0 * sz)).map fun j => (W.cell? (a.add j)).getD undef, ⟨by simp, some a, c0, rfl, hl, by omega, ?_⟩, ?_⟩
    · rcases Nat.eq_zero_or_pos l0 with hz | hz
      · exact .inl hz
      · right
        obtain ⟨u, hu⟩ := hcell 0 (Nat.mul_pos hz h0)
        have hsp := cell_spot hu
        have ha0 : a.add 0 = a := by simp [Addr.add]
        rw [ha0] at hsp hu
        obtain ⟨b, o, s⟩ := a
        simp only at hsp
        subst hsp
        refine ⟨b, o, rfl, World.block_lt_of_cell? W _ hu, fun j u' hu' => ?_⟩
        rw [List.getElem?_map] at hu'
        obtain ⟨k, hk, rfl⟩ := Option.map_eq_some_iff.1 hu'
        obtain ⟨hk1, hk2⟩ := List.getElem?_eq_some_iff.1 hk
        rw [List.getElem_range] at hk2
        subst hk2
        rw [List.length_range] at hk1
        have := hj' j hk1
        rw [add_off] at this ⊢
        exact this
    · intro i hi
      obtain ⟨cs, y, h2, h3⟩ := each i hi
      obtain ⟨_, h4, h5⟩ := World.cells?_some h2
      refine ⟨n, y, ?_⟩
      have hchunk : (((List.range (l0 * sz)).map fun j => (W.cell? (a.add j)).getD undef).drop (i * sz)).take sz = cs := by
        have hle : i * sz + sz ≤ l0 * sz := by rw [← Nat.succ_mul]; exact Nat.mul_le_mul_right _ hi
        apply List.ext_getElem
        · simp only [List.length_take, List.length_drop, List.length_map, List.length_range]
          omega
        · intro j h6 h7
          simp only [List.length_take, List.length_drop, List.length_map, List.length_range] at h6
          simp only [List.getElem_take, List.getElem_drop, List.getElem_map, List.getElem_range]
          have h8 := h5 j (by omega)
          rw [hadd] at h8
          rw [h8, List.getElem?_eq_getElem h7]
          rfl
      rw [hchunk]
      exact h3
/-- Cells, element behind element. -/
theorem cells_enc {α : Type} (en : α → List Value) (Q : α → Prop) (sz : Nat) : ∀ (n : Nat) (cells : List Value), cells.length = n * sz → (∀ i, i < n → ∃ x, (cells.drop (i * sz)).take sz = en x ∧ Q x) → ∃ xs : List α, xs.length = n ∧ cells = xs.flatMap en ∧ ∀ x ∈ xs, Q x := by
  intro n
  induction n with
  | zero =>
    intro cells hl _
    exact ⟨[], rfl, by simpa using hl, fun x hx => by simp at hx⟩
  | succ n ih =>
    intro cells hl h
    obtain ⟨x, hx, hq⟩ := h 0 (by omega)
    obtain ⟨xs, h1, h2, h3⟩ := ih (cells.drop sz) (by rw [List.length_drop, hl, Nat.succ_mul]; omega) (fun i hi => by
      obtain ⟨y, hy, hq'⟩ := h (i + 1) (by omega)
      refine ⟨y, ?_, hq'⟩
      rw [List.drop_drop, ← hy, Nat.succ_mul, Nat.add_comm])
    refine ⟨x :: xs, by simp [h1], ?_, fun y hy => ?_⟩
    · rw [List.flatMap_cons, ← h2, ← hx]
      simp
    · rcases List.mem_cons.1 hy with rfl | hy
      · exact hq
      · exact h3 y hy
theorem flat_strs (xs : List ByteArray) : xs.flatMap (fun s => [Value.string s]) = strs xs := by
  induction xs with
  | nil => rfl
  | cons x xs ih =>
    rw [List.flatMap_cons, ih]
    rfl
/-- A []string. -/
theorem open_strs (ht : P.underlying t = some (.slice e)) (he : P.underlying e = some .string) (hc : P.cellsOf e = 1) (h : DataW.Trod enc P W base spare held t v d p) (hv : ∃ a l c, v = .slice a l c) :
    ∃ xs : List ByteArray, SlAt W v 1 xs.length (strs xs) ∧ ∀ x ∈ xs, x.size ≤ maxLen := by
  obtain ⟨n, cells, hS, hel⟩ := sl_of_trod ht hc (by omega) h hv
  obtain ⟨xs, h1, h2, h3⟩ := cells_enc (fun s => [Value.string s]) (fun s => s.size ≤ maxLen) 1 n cells hS.1 (fun i hi => by
    obtain ⟨f, y, hy⟩ := hel i hi
    obtain ⟨s, hs, _, hw⟩ := DataW.trod_string he hy
    exact ⟨s, hs, hw⟩)
  rw [flat_strs] at h2
  subst h1 h2
  exact ⟨xs, hS, h3⟩
theorem slice_of_trod {u : Value} {fuel : Nat} {x : DataW H × List MemPlace} (ht : P.underlying t = some (.slice e)) (h : DataW.trod enc P W base spare held fuel t [u] = some x) : (∃ a l c, u = .slice a l c) ∧ DataW.Trod enc P W base spare held t u x.1 x.2 := by
  have hu : ∃ a l c, u = .slice a l c := by
    rcases DataW.trod_slice ht h with ⟨hcs, _⟩ | ⟨a, len, cap, elems, rest, n, _, hcs, _⟩
    · injection hcs with e1 _
      exact ⟨_, _, _, e1⟩
    · injection hcs with e1 _
      exact ⟨_, _, _, e1⟩
  refine ⟨hu, ?_⟩
  obtain ⟨a, l, c, rfl⟩ := hu
  exact ⟨fuel, h⟩
/-- A struct of one field. -/
theorem open_s1 {f0 : Field} (ht : P.underlying t = some (.struct #[f0])) (hc : P.cellsOf t = 1) (hc0 : P.cellsOf f0.type = 1) (ho : f0.offset = 0) (hv : Value.okWide P W r bb t v) (h : DataW.Trod enc P W base spare held t v d p) :
    ∃ u y q, v = .agg #[u] ∧ ∃ fuel, DataW.trod enc P W base spare held fuel f0.type [u] = some (y, q) := by
  obtain ⟨cs, rfl, hsz⟩ := okWide_struct ht hv
  rw [hc] at hsz
  obtain ⟨u, rfl⟩ : ∃ u, cs = #[u] := by
    obtain ⟨l⟩ := cs
    match l, hsz with
    | [u], _ => exact ⟨_, rfl⟩
  obtain ⟨fuel, hf⟩ := h
  obtain ⟨xs, n, _, _, _, hlx, hx⟩ := DataW.trod_struct ht hf
  have h0 := hx 0 f0 rfl
  rw [ho, hc0] at h0
  have hlx' : xs.length = 1 := hlx
  obtain ⟨⟨y, q⟩, rfl⟩ : ∃ x, xs = [x] := by
    match xs, hlx' with
    | [x], _ => exact ⟨_, rfl⟩
  exact ⟨u, y, q, rfl, n, h0⟩
/-- An api.Disk. -/
theorem open_disk {f0 : Field} (ht : P.underlying t = some (.struct #[f0])) (hc : P.cellsOf t = 1) (hc0 : P.cellsOf f0.type = 1) (ho : f0.offset = 0) (ht0 : P.underlying f0.type = some (.slice e)) (he : P.underlying e = some .string) (hce : P.cellsOf e = 1)
    (hv : Value.okWide P W r bb t v) (h : DataW.Trod enc P W base spare held t v d p) : ∃ a : Value × List ByteArray, v = .agg #[a.1] ∧ SlAt W a.1 1 a.2.length (strs a.2) := by
  obtain ⟨u, y, q, rfl, fuel, hf⟩ := open_s1 ht hc hc0 ho hv h
  obtain ⟨hu, h2⟩ := slice_of_trod ht0 hf
  obtain ⟨xs, h3, _⟩ := open_strs ht0 he hce h2 hu
  exact ⟨(u, xs), rfl, h3⟩
end
end Go.Proofs.YtndgollcganhmaaDoor
/- Between the printer's words for rows and my own: a row that is read, a row of one's own. No program in sight. -/
namespace Go.Proofs.YtndgollcganhmaaDoor
open Go.RowKit Go.Proofs.YtndgollcganhmaaDoorW.PrintWords
theorem map_flat {α β : Type} (f : α → β) (en : β → List Value) (xs : List α) : (xs.map f).flatMap en = xs.flatMap fun x => en (f x) := by
  induction xs with
  | nil => rfl
  | cons x xs ih => simp [ih]
theorem flat_get? {α : Type} {en : α → List Value} {sz : Nat} (hsz : ∀ x, (en x).length = sz) (h0 : 0 < sz) (xs : List α) (t : Nat) (u : Value) (hu : (xs.flatMap en)[t]? = some u) :
    ∃ h : t / sz < xs.length, (en xs[t / sz])[t % sz]? = some u := by
  have hl : t < (xs.flatMap en).length := (List.getElem?_eq_some_iff.1 hu).1
  rw [flat_len hsz] at hl
  have h1 : t / sz < xs.length := (Nat.div_lt_iff_lt_mul h0).2 hl
  refine ⟨h1, ?_⟩
  have := flat_get hsz xs (t / sz) (t % sz) h1 (Nat.mod_lt _ h0)
  rw [Nat.div_add_mod'] at this
  rw [← this, hu]
section
variable {α β : Type} {d : Kd α} {en : β → List Value} {f : α → β} {w W : World} {A : Option Addr} {c g cap n sz B : Nat} {e : TypeId} {xs : List α} {cells : List Value} {v : Value}
/-- A row that is read, whose elements' cells say all. -/
theorem slat_of_C (hK : ∀ {w : World} {x : α} {cs : List Value}, d.K w x cs → cs = en (f x)) (hsz : ∀ y, (en y).length = d.sz) (h0 : 0 < d.sz) (h : d.C w A xs.length xs) (hc : xs.length ≤ c) :
    SlAt w (.slice A xs.length c) d.sz xs.length ((xs.map f).flatMap en) := by
  obtain ⟨_, hm, hr⟩ := h
  refine ⟨by rw [flat_len hsz, List.length_map], A, c, rfl, hc, by unfold maxLen; omega, ?_⟩
  rcases Nat.eq_zero_or_pos xs.length with hz | hz
  · exact .inl hz
  · right
    obtain ⟨ad, rfl, hcell⟩ := hr hz
    have hget : ∀ t u, ((xs.map f).flatMap en)[t]? = some u → w.cell? (ad.add t) = some u := by
      intro t u hu
      obtain ⟨h1, h2⟩ := flat_get? hsz h0 _ t u hu
      rw [List.length_map] at h1
      obtain ⟨cs, _, hk, hcs⟩ := hcell (t / d.sz) xs[t / d.sz] (List.getElem?_eq_getElem h1)
      have := hcs (t % d.sz) u (by rw [hK hk]; simpa using h2)
      rwa [Nat.div_add_mod'] at this
    have hfl : 0 < ((xs.map f).flatMap en).length := by rw [flat_len hsz, List.length_map]; exact Nat.mul_pos hz h0
    have h1 := hget 0 _ (List.getElem?_eq_getElem hfl)
    have ha0 : ad.add 0 = ad := by simp [Addr.add]
    rw [ha0] at h1
    have hsp := cell_spot h1
    obtain ⟨b, o, s⟩ := ad
    simp only at hsp
    subst hsp
    refine ⟨b, o, rfl, World.block_lt_of_cell? _ _ h1, fun j u hu => ?_⟩
    have := hget j u hu
    rwa [add_off] at this
/-- A row of one's own, whose elements' cells say all. -/
theorem R_of_own {g : β → α} (hM : ∀ (w : World) (b : Nat) (ok : Nat → Prop) (y : β), d.M w b ok (g y) (en y)) (hsz : ∀ y, (en y).length = d.sz) {ys : List β} (h : w.ownsRow B e d.sz v ys.length (ys.flatMap en)) :
    d.R e w B (fun _ => True) v (ys.map g) := by
  refine ⟨fun _ _ => trivial, ys.flatMap en, by rw [List.length_map]; exact h, by rw [flat_len hsz, List.length_map], fun j p hj => ?_⟩
  rw [List.getElem?_map] at hj
  obtain ⟨y, hy, rfl⟩ := Option.map_eq_some_iff.1 hj
  obtain ⟨hj1, hj2⟩ := List.getElem?_eq_some_iff.1 hy
  have : ((ys.flatMap en).drop (j * d.sz)).take d.sz = en y := by
    apply List.ext_getElem?
    intro i
    rw [List.getElem?_take]
    split
    · rename_i hi
      rw [List.getElem?_drop, flat_get hsz ys j i hj1 hi, hj2]
    · rename_i hi
      rw [List.getElem?_eq_none (by rw [hsz]; omega)]
  rw [this]
  exact hM _ _ _ _
/-- A block known whole, and cells known: a row of one's own. -/
theorem own_of_cells {cur : Array Value} (hb : W.heap[g]? = some (.cells cur e (0, 0))) (hs : cur.size = cap * sz) (hS : SlAt W (.slice (some ⟨g, 0, none⟩) n cap) sz n cells) (h1 : n ≤ cap) (h2 : cap ≤ maxLen) (hB : B ≤ g) :
    W.ownsRow B e sz (.slice (some ⟨g, 0, none⟩) n cap) n cells := by
  refine ⟨hS.1, .inr ⟨g, cap, cur, rfl, hB, hb, h1, h2, hs, ?_⟩⟩
  have hle : n * sz ≤ cap * sz := Nat.mul_le_mul_right _ h1
  apply List.ext_getElem?
  intro j
  rw [List.getElem?_take]
  split
  · rename_i hj
    have hn : 0 < n := Nat.pos_of_ne_zero (fun e => by subst e; simp at hj)
    obtain ⟨b, o, ha, _, hc⟩ := hS.at hn
    injection ha with ha
    injection ha with ha1 ha2
    subst ha1 ha2
    have hjl : j < cells.length := by rw [hS.1]; exact hj
    have := hc j _ (List.getElem?_eq_getElem hjl)
    simp only [World.cell?, hb, Nat.zero_add] at this
    rw [List.getElem?_eq_getElem hjl]
    simpa using this
  · rename_i hj
    rw [List.getElem?_eq_none (by rw [hS.1]; omega)]
end
open Go.Sort in
/-- A sorted row's block keeps its form. -/
theorem sort_blockT {α : Type} [Inhabited α] (en : α → List Value) (k : Nat) (w : World) (g m : Nat) (d : Array α) (os : Array Obj) {cur : Array Value} {e : TypeId} {fr : Nat × Nat} (hg : g < w.heap.size) (h : w.heap[g]? = some (.cells cur e fr)) :
    ∃ cur', (sortWorldK en k w g 0 m d os).heap[g]? = some (.cells cur' e fr) ∧ cur'.size = cur.size := by
  refine ⟨putCells id 0 (flatK en k d) cur, ?_, by simp [putCells]⟩
  unfold sortWorldK
  rw [heap_grow_old _ _ (by simp [putRowK, putRow, mapBlock, Sort.ahead]; exact hg)]
  simp [putRowK, putRow, mapBlock, Sort.ahead, Array.getElem?_modify, h, onCells]
end Go.Proofs.YtndgollcganhmaaDoor
/- Contracts of label: isName, isValue, isLabel, Matcher. -/
namespace Go.Proofs.YtndgollcganhmaaDoor
open Go.RowKit
attribute [local go_sem high] ext_size ext_cell ext_frozen alloc_cell alloc_frozen
theorem size_iter (w : World) (s : ByteArray) (p : Nat) : Below w.heap.size w (w.iter s p) := (Below.refl _ _).alloc (Nat.le_refl _) _
theorem str_empty {s : ByteArray} (h : s.size = 0) : s = ⟨#[]⟩ := by
  apply ByteArray.ext
  exact Array.eq_empty_of_size_eq_zero h
theorem toList_len (s : ByteArray) : s.toList.length = s.size := by rw [ByteArray.toList_eq]; exact len_data s
theorem nonempty_dec (s : ByteArray) : (!s.toList.isEmpty) = decide (1 ≤ s.size) := by
  have := toList_len s
  cases h : s.toList with
  | nil => rw [h] at this; simp at this; simp [← this]
  | cons x xs => rw [h] at this; simp at this; simp; omega
theorem name_no {s : ByteArray} {k : Nat} (h : k < s.size) (hp : azB (s[k]'h) = false) : false = nameB s := by
  unfold nameB
  rw [all_bad h hp]
  rfl
theorem name_end {s : ByteArray} (h : ∀ k (hk : k < s.size), azB (s[k]'hk) = true) : (!s.toList.isEmpty && decide ((s.size : Int) ≤ 8)) = nameB s := by
  unfold nameB
  rw [all_good h, nonempty_dec]
  congr 1
  simp
  omega
theorem az_yes {c : UInt8} (h : 97 ≤ c.toNat ∧ c.toNat ≤ 122) : azB c = true := by unfold azB; rw [decide_eq_true h.1, decide_eq_true h.2]; rfl
theorem az_no {c : UInt8} (h : c.toNat < 97 ∨ 122 < c.toNat) : azB c = false := by
  unfold azB
  rcases h with h | h
  · rw [decide_eq_false (by omega)]; rfl
  · rw [decide_eq_false (p := c.toNat ≤ 122) (by omega), Bool.and_false]
theorem isName_any (s : ByteArray) (w : World) (hs : s.size ≤ maxLen) :
    Calls Tryd.prog 52 #[.string s] w fun e w' => e = .returned (.bool (nameB s)) ∧ Below w.heap.size w w' := by
  unfold maxLen at hs
  go_enter Tryd.func52, Tryd.ntmps52
  go_wp2
  go_loopw [4] (fun _ wr => ∃ pos : Nat, pos ≤ s.size ∧ (∀ k (hk : k < s.size), k < pos → azB (s[k]'hk) = true) ∧ wr = w.iter s pos) (fun _ wr => s.size - wr.iterPos w.heap.size)
  case atStart => exact ⟨0, Nat.zero_le _, fun k _ h => absurd h (by omega), rfl⟩
  case round =>
    obtain ⟨pos, hp, hall, rfl⟩ := hrel
    have HALL := Lib.hid hall
    clear hall
    by_cases hlt : pos < s.size
    · obtain ⟨c, hc⟩ : ∃ c, c = (s[pos]'hlt).toNat := ⟨_, rfl⟩
      have HC := Lib.hid hc
      by_cases ha : c < 128
      · have hn := fun ty => run_next_ascii (P := Tryd.prog) w s pos ty hlt (by omega)
        rw [← hc] at hn
        clear hc
        by_cases haz : 97 ≤ c ∧ c ≤ 122
        · have h1 : ¬ ((c : Int) < 97) := by omega
          have h2 : ¬ (122 < (c : Int)) := by omega
          go_wp2
          refine ⟨⟨pos + 1, by omega, fun k hk hkp => ?_, rfl⟩, by simp; omega⟩
          rcases Nat.lt_succ_iff_lt_or_eq.1 hkp with h | rfl
          · exact HALL.out k hk h
          · exact az_yes (by have := HC.out; omega)
        · rcases (show c < 97 ∨ 122 < c by omega) with h1 | h1
          · have h2 : ((c : Int) < 97) := by omega
            go_wp2
            go_ret
            exact ⟨ret_bool (name_no hlt (az_no (by have := HC.out; omega))), size_iter _ _ _⟩
          · have h2 : ¬ ((c : Int) < 97) := by omega
            have h3 : (122 < (c : Int)) := by omega
            go_wp2
            go_ret
            exact ⟨ret_bool (name_no hlt (az_no (by have := HC.out; omega))), size_iter _ _ _⟩
      · have hn := fun ty => run_next_any (P := Tryd.prog) w s pos ty hlt
        obtain ⟨hd, _⟩ := decode_high s pos hlt (by omega)
        obtain ⟨d, hd'⟩ : ∃ d, d = (Utf8.decode s pos).1 := ⟨_, rfl⟩
        rw [← hd'] at hn hd
        have h2 : ¬ ((d : Int) < 97) := by omega
        have h3 : (122 < (d : Int)) := by omega
        clear hd' hc
        go_wp2
        go_ret
        exact ⟨ret_bool (name_no hlt (az_no (by have := HC.out; omega))), size_iter _ _ _⟩
    · have hn := fun ty => run_next_end (P := Tryd.prog) w s pos ty hlt
      go_wp2
      all_goals
        go_ret
        refine ⟨ret_bool ?_, size_iter _ _ _⟩
        rw [← name_end fun k hk => HALL.out k hk (by omega)]
        try (first | rfl | simp [*])
theorem val_no {s : ByteArray} {k : Nat} (h : k < s.size) (hp : avB (s[k]'h) = false) : false = valB s := by
  unfold valB
  rw [all_bad h hp]
  rfl
theorem val_end {s : ByteArray} (h : ∀ k (hk : k < s.size), avB (s[k]'hk) = true) : decide ((s.size : Int) ≤ 8) = valB s := by
  unfold valB
  rw [all_good h, Bool.true_and]
  simp
  omega
theorem av_yes {c : UInt8} (h : (97 ≤ c.toNat ∧ c.toNat ≤ 122) ∨ (48 ≤ c.toNat ∧ c.toNat ≤ 57) ∨ c.toNat = 45) : avB c = true := by
  unfold avB azB
  simp only [Bool.or_eq_true, Bool.and_eq_true, decide_eq_true_eq]
  omega
theorem av_no {c : UInt8} (h : ¬((97 ≤ c.toNat ∧ c.toNat ≤ 122) ∨ (48 ≤ c.toNat ∧ c.toNat ≤ 57) ∨ c.toNat = 45)) : avB c = false := by
  unfold avB azB
  rw [← Bool.not_eq_true]
  simp only [Bool.or_eq_true, Bool.and_eq_true, decide_eq_true_eq]
  omega
set_option maxHeartbeats 1000000 in
theorem isValue_any (s : ByteArray) (w : World) (hs : s.size ≤ maxLen) :
    Calls Tryd.prog 53 #[.string s] w fun e w' => e = .returned (.bool (valB s)) ∧ Below w.heap.size w w' := by
  unfold maxLen at hs
  go_enter Tryd.func53, Tryd.ntmps53
  go_wp2
  go_loopw [4] (fun _ wr => ∃ pos : Nat, pos ≤ s.size ∧ (∀ k (hk : k < s.size), k < pos → avB (s[k]'hk) = true) ∧ wr = w.iter s pos) (fun _ wr => s.size - wr.iterPos w.heap.size)
  case atStart => exact ⟨0, Nat.zero_le _, fun k _ h => absurd h (by omega), rfl⟩
  case round =>
    obtain ⟨pos, hp, hall, rfl⟩ := hrel
    have HALL := Lib.hid hall
    clear hall
    by_cases hlt : pos < s.size
    · obtain ⟨c, hc⟩ : ∃ c, c = (s[pos]'hlt).toNat := ⟨_, rfl⟩
      have HC := Lib.hid hc
      by_cases ha : c < 128
      · have hn := fun ty => run_next_ascii (P := Tryd.prog) w s pos ty hlt (by omega)
        rw [← hc] at hn
        clear hc
        by_cases haz : ((97 ≤ c ∧ c ≤ 122) ∨ (48 ≤ c ∧ c ≤ 57) ∨ c = 45)
        · rcases haz with h0 | h0 | h0
          all_goals
            first
              | (have h1 : ¬ ((c : Int) < 97) := by omega
                 have h2 : ¬ (122 < (c : Int)) := by omega)
              | (have h1 : ((c : Int) < 97) := by omega
                 have h2 : ¬ ((c : Int) < 48) := by omega
                 have h3 : ¬ (57 < (c : Int)) := by omega)
              | (have h1 : ((c : Int) < 97) := by omega
                 have h2 : ((c : Int) < 48) := by omega
                 have h3 : ((c : Int) != 45) = false := by simp; omega)
            have H0 := Lib.hid h0
            clear h0
            go_wp2
            refine ⟨⟨pos + 1, by omega, fun k hk hkp => ?_, rfl⟩, by simp; omega⟩
            rcases Nat.lt_succ_iff_lt_or_eq.1 hkp with h | rfl
            · exact HALL.out k hk h
            · exact av_yes (by have := HC.out; have := H0.out; omega)
        · have HAZ := Lib.hid haz
          rcases (show c < 45 ∨ (45 < c ∧ c < 48) ∨ (57 < c ∧ c < 97) ∨ 122 < c by omega) with h1 | h1 | h1 | h1
          all_goals
            first
              | (have h2 : ((c : Int) < 97) := by omega
                 have h3 : ((c : Int) < 48) := by omega
                 have h4 : ((c : Int) != 45) = true := by simp; omega)
              | (have h2 : ((c : Int) < 97) := by omega
                 have h3 : ¬ ((c : Int) < 48) := by omega
                 have h4 : (57 < (c : Int)) := by omega
                 have h5 : ((c : Int) != 45) = true := by simp; omega)
              | (have h2 : ¬ ((c : Int) < 97) := by omega
                 have h3 : (122 < (c : Int)) := by omega
                 have h4 : ¬ ((c : Int) < 48) := by omega
                 have h5 : (57 < (c : Int)) := by omega
                 have h6 : ((c : Int) != 45) = true := by simp; omega)
            clear haz h1
            go_wp2
            go_ret
            exact ⟨ret_bool (val_no hlt (av_no (by have := HC.out; have := HAZ.out; omega))), size_iter _ _ _⟩
      · have hn := fun ty => run_next_any (P := Tryd.prog) w s pos ty hlt
        obtain ⟨hd, _⟩ := decode_high s pos hlt (by omega)
        obtain ⟨d, hd'⟩ : ∃ d, d = (Utf8.decode s pos).1 := ⟨_, rfl⟩
        rw [← hd'] at hn hd
        have h2 : ¬ ((d : Int) < 97) := by omega
        have h3 : (122 < (d : Int)) := by omega
        have h4 : ¬ ((d : Int) < 48) := by omega
        have h5 : (57 < (d : Int)) := by omega
        have h6 : ((d : Int) != 45) = true := by simp; omega
        clear hd' hc
        go_wp2
        go_ret
        exact ⟨ret_bool (val_no hlt (av_no (by have := HC.out; omega))), size_iter _ _ _⟩
    · have hn := fun ty => run_next_end (P := Tryd.prog) w s pos ty hlt
      go_wp2
      all_goals
        go_ret
        refine ⟨ret_bool ?_, size_iter _ _ _⟩
        rw [← val_end fun k hk => HALL.out k hk (by omega)]
        try (first | rfl | simp [*])
theorem isLabel_any (x : Lab) (w : World) (h1 : x.name.size ≤ maxLen) (h2 : x.value.size ≤ maxLen) :
    Calls Tryd.prog 42 #[labV x] w fun e w' => e = .returned (.bool (labB x)) ∧ Below w.heap.size w w' := by
  obtain ⟨n, v⟩ := x
  have HN := Lib.hid fun W => isName_any n W h1
  have HV := Lib.hid fun W => isValue_any v W h2
  unfold labV labB
  simp only at h1 h2 ⊢
  cases hn : nameB n
  all_goals
    rw [hn] at HN
    go_enter Tryd.func42, Tryd.ntmps42
    go_wp2_with fail
    refine (HN.out _).mono ?_
    rintro e w' ⟨rfl, hb⟩
    obtain ⟨y1, rfl⟩ := ext_of hb
    clear hb
    first | (go_wp2_with fail; refine (HV.out _).mono ?_; rintro e w' ⟨rfl, hb⟩; obtain ⟨y2, rfl⟩ := ext_of hb; clear hb) | skip
    go_wp2_with fail
    go_ret
    refine ⟨ret_bool (by simp), (by repeat (first | exact Below.refl _ _ | apply bal | apply bext | apply bdr | apply bdrN | (refine bst ?_ _ (by simp only [ext_size, size_alloc, size_set]; omega))))⟩
end Go.Proofs.YtndgollcganhmaaDoor
/- Contracts of slices.IndexFunc, ContainsFunc at labels. -/
namespace Go.Proofs.YtndgollcganhmaaDoor
open Go.RowKit
attribute [local go_sem high] ext_size ext_cell ext_frozen alloc_cell alloc_frozen
/-- A function value is a predicate on these. -/
def PredL (f : FuncId) (caps : Array Value) (w : World) (p : Lab → Bool) (xs : List Lab) : Prop :=
  ∀ x ∈ xs, ∀ W, Below w.heap.size w W → Calls Tryd.prog f (#[labV x] ++ caps) W fun e W' => e = .returned (.bool (p x)) ∧ Below W.heap.size W W'
theorem indexFuncL (v : Value) (xs : List Lab) (f : FuncId) (caps : Array Value) (p : Lab → Bool) (w : World) (hS : SlAt w v 2 xs.length (labsC xs)) (hp : PredL f caps w p xs) (hf : Enters Tryd.prog f) :
    Calls Tryd.prog 51 #[v, .func (.func f) #[] caps] w fun e w' => e = .returned (.int .i64 (idxOf p xs)) ∧ Below w.heap.size w w' := by
  obtain ⟨a, c, rfl, hnc, hcm⟩ := hS.form
  have hm := hS.le
  have HS := Lib.hid hS
  have HP := Lib.hid hp
  clear hS hp
  unfold maxLen at hm
  go_enter Tryd.func51, Tryd.ntmps51
  go_wp2
  go_loopw [5, 8] (fun _ i wr => ∃ k : Nat, k ≤ xs.length ∧ i = .int .i64 k ∧ (∀ j (hj : j < xs.length), j < k → p xs[j] = false) ∧ Below w.heap.size w wr) (fun _ i _ => xs.length - (intOf i).toNat)
  case atStart => exact ⟨0, Nat.zero_le _, rfl, fun j _ hj => absurd hj (by omega), Below.refl _ _⟩
  case round =>
    obtain ⟨k, hk, rfl, hno, hbel⟩ := hrel
    have HN := Lib.hid hno
    clear hno
    obtain ⟨xr, rfl⟩ := ext_of hbel
    by_cases hlt : k < xs.length
    · obtain ⟨b, o, rfl, hbl, hcell⟩ := HS.out.at (by omega)
      have hg := labs_get xs k hlt
      have hck0 : w.cell? ⟨b, o + k * 2, none⟩ = some (.string xs[k].name) := by exact hcell _ _ hg.1
      have hck1 : w.cell? ⟨b, o + k * 2 + 1, none⟩ = some (.string xs[k].value) := by rw [Nat.add_assoc]; exact hcell _ _ hg.2
      clear hcell hg
      have hcall : Calls Tryd.prog f (#[Value.agg #[.string xs[k].name, .string xs[k].value]] ++ caps) (ext w xr) fun e W' => e = .returned (.bool (p xs[k])) ∧ Below (ext w xr).heap.size (ext w xr) W' := HP.out xs[k] (List.getElem_mem hlt) (ext w xr) hbel
      have he := hf (#[Value.agg #[.string xs[k].name, .string xs[k].value]] ++ caps) (ext w xr)
      cases hpx : p xs[k]
      all_goals
        rw [hpx] at hcall
        have HX := Lib.hid hpx
        have HC := Lib.hid hcall
        clear hpx hcall hbel
        go_wp2_with (refine Calls.mono HC.out ?_; rintro e w1 ⟨rfl, hb1⟩)
      · refine ⟨⟨k + 1, by omega, by go_num, fun j hj hjk => ?_, bel (ext_bel w xr) hb1⟩, by simp [intOf]; omega⟩
        rcases Nat.lt_succ_iff_lt_or_eq.1 hjk with h | rfl
        · exact HN.out j hj h
        · exact HX.out
      · go_ret
        exact ⟨ret_int (idxOf_found hlt HX.out fun j hj => HN.out j (by omega) hj).symm, bel (ext_bel w xr) hb1⟩
    · obtain rfl : k = xs.length := by omega
      go_wp2
      go_ret
      exact ⟨ret_int (idxOf_none fun j hj => HN.out j hj hj).symm, ext_bel w xr⟩
theorem containsFuncL (v : Value) (xs : List Lab) (f : FuncId) (caps : Array Value) (p : Lab → Bool) (w : World) (hS : SlAt w v 2 xs.length (labsC xs)) (hp : PredL f caps w p xs) (hf : Enters Tryd.prog f) :
    Calls Tryd.prog 40 #[v, .func (.func f) #[] caps] w fun e w' => e = .returned (.bool (xs.any p)) ∧ Below w.heap.size w w' := by
  have hi := Lib.hid (idxOf_any p xs)
  have HI := Lib.hid (indexFuncL v xs f caps p w hS hp hf)
  obtain ⟨a, c, rfl, hnc, hcm⟩ := hS.form
  clear hp hS
  go_enter Tryd.func40, Tryd.ntmps40
  go_wp2_with fail
  refine HI.out.mono ?_
  rintro e w1 ⟨rfl, hb1⟩
  go_wp2
  go_ret
  exact ⟨ret_bool hi.out, hb1⟩
end Go.Proofs.YtndgollcganhmaaDoor
/- Contracts of cmp.Compare, label.order, each, Right, Matcher. -/
namespace Go.Proofs.YtndgollcganhmaaDoor
open Go.RowKit
attribute [local go_sem high] ext_size ext_cell ext_frozen alloc_cell alloc_frozen
theorem compare_any (s t : ByteArray) (w : World) :
    Calls Tryd.prog 39 #[.string s, .string t] w fun e w' => e = .returned (.int .i64 (cmpS s t)) ∧ w = w' := by
  unfold cmpS ltS
  go_enter Tryd.func39, Tryd.ntmps39
  go_wp2
  all_goals
    go_ret
    exact ⟨ret_int (by simp_all), rfl⟩
/-- A list of labels whose texts are no longer than a text may be. -/
def LabsOk (xs : List Lab) : Prop := ∀ x ∈ xs, x.name.size ≤ maxLen ∧ x.value.size ≤ maxLen
theorem order_any (x y : Lab) (w : World) :
    Calls Tryd.prog 26 #[labV x, labV y] w fun e w' => e = .returned (.int .i64 (cmpS x.name y.name)) ∧ Below w.heap.size w w' := by
  obtain ⟨n, v⟩ := x
  obtain ⟨n2, v2⟩ := y
  unfold labV
  have H := Lib.hid fun W => same_bel (compare_any n n2 W)
  go_enter Tryd.func26, Tryd.ntmps26
  go_wp2_with fail
  refine (H.out _).mono ?_
  rintro e w' ⟨rfl, hb⟩
  obtain ⟨y1, rfl⟩ := ext_of hb
  clear hb
  go_wp2_with fail
  go_ret
  exact ⟨rfl, (by repeat (first | exact Below.refl _ _ | apply bal | apply bext | apply bdr | apply bdrN | (refine bst ?_ _ (by simp only [ext_size, size_alloc, size_set]; omega))))⟩
theorem each1_any (x : Lab) (w : World) (h1 : x.name.size ≤ maxLen) (h2 : x.value.size ≤ maxLen) :
    Calls Tryd.prog 41 #[labV x] w fun e w' => e = .returned (.bool (!labB x)) ∧ Below w.heap.size w w' := by
  have H := Lib.hid fun W => isLabel_any x W h1 h2
  obtain ⟨n, v⟩ := x
  obtain ⟨b, hb⟩ : ∃ b, b = labB ⟨n, v⟩ := ⟨_, rfl⟩
  rw [← hb] at H ⊢
  unfold labV at *
  clear hb
  go_enter Tryd.func41, Tryd.ntmps41
  go_wp2_with fail
  refine (H.out _).mono ?_
  rintro e w' ⟨rfl, hb⟩
  obtain ⟨y1, rfl⟩ := ext_of hb
  clear hb
  go_wp2_with fail
  go_ret
  exact ⟨rfl, (by repeat (first | exact Below.refl _ _ | apply bal | apply bext | apply bdr | apply bdrN | (refine bst ?_ _ (by simp only [ext_size, size_alloc, size_set]; omega))))⟩
theorem each_any (v : Value) (xs : List Lab) (w : World) (hS : SlAt w v 2 xs.length (labsC xs)) (hL : LabsOk xs) :
    Calls Tryd.prog 27 #[v] w fun e w' => e = .returned (.bool (eachB xs)) ∧ Below w.heap.size w w' := by
  obtain ⟨a, c, rfl, hnc, hcm⟩ := hS.form
  have hen : Enters Tryd.prog 41 := enters_of Tryd.func41 (by kernel_rfl) rfl
  have H := Lib.hid (containsFuncL _ xs _ #[] (fun x => !labB x) w hS (fun x hx W _ => each1_any x W (hL x hx).1 (hL x hx).2) hen)
  obtain ⟨q, hq⟩ : ∃ q, q = xs.any (fun x => !labB x) := ⟨_, rfl⟩
  unfold eachB
  rw [← hq] at H ⊢
  clear hq hS hen
  by_cases c1 : 1 ≤ xs.length ∧ xs.length ≤ 3
  · obtain ⟨c1, c2⟩ := c1
    go_enter Tryd.func27, Tryd.ntmps27
    go_wp2_with fail
    refine (H.out).mono ?_
    rintro e w' ⟨rfl, hb⟩
    obtain ⟨y1, rfl⟩ := ext_of hb
    clear hb
    go_wp2_with fail
    go_ret
    exact ⟨ret_bool (by rw [decide_eq_true c1, decide_eq_true c2]; rfl), (by repeat (first | exact Below.refl _ _ | apply bal | apply bext | apply bdr | apply bdrN | (refine bst ?_ _ (by simp only [ext_size, size_alloc, size_set]; omega))))⟩
  · have hr : (decide (1 ≤ xs.length) && decide (xs.length ≤ 3)) = false := by simp; omega
    rcases (show xs.length < 1 ∨ 3 < xs.length by omega) with c2 | c2
    all_goals
      first | (have c3 : 1 ≤ xs.length := by omega) | skip
      go_enter Tryd.func27, Tryd.ntmps27
      go_wp2_with fail
      go_ret
      exact ⟨ret_bool (by first | rfl | (rw [decide_eq_false (p := xs.length ≤ 3) (by omega)]; rfl)), (by repeat (first | exact Below.refl _ _ | apply bal | apply bext | apply bdr | apply bdrN | (refine bst ?_ _ (by simp only [ext_size, size_alloc, size_set]; omega))))⟩
theorem labRight_any (v : Value) (xs : List Lab) (w : World) (hS : SlAt w v 2 xs.length (labsC xs)) (hL : LabsOk xs) :
    Calls Tryd.prog 17 #[v] w fun e w' => e = .returned (.bool (labsB xs)) ∧ Below w.heap.size w w' := by
  obtain ⟨a, c, rfl, hnc, hcm⟩ := hS.form
  have hm := hS.le
  have HS := Lib.hid hS
  have HE := Lib.hid fun W (h : SlAt W (Value.slice a xs.length c) 2 xs.length (labsC xs)) => each_any _ xs W h hL
  unfold maxLen at hm
  clear hS hL
  go_enter Tryd.func17, Tryd.ntmps17
  go_wp2
  go_loopw [3] (fun i wr => ∃ j : Nat, (j = 0 ∨ j + 1 ≤ xs.length) ∧ i = .int .i64 (j + 1) ∧ (∀ q (h : q + 1 < xs.length), q < j → ltS xs[q].name xs[q + 1].name = true) ∧ Below w.heap.size w wr) (fun i _ => xs.length - (intOf i).toNat)
  case atStart => exact ⟨0, .inl rfl, rfl, fun q _ h => absurd h (by omega), Below.refl _ _⟩
  case round =>
    obtain ⟨j, hj, rfl, hall, hbel⟩ := hrel
    have HA := Lib.hid hall
    clear hall
    obtain ⟨xr, rfl⟩ := ext_of hbel
    clear hbel
    by_cases hlt : j + 1 < xs.length
    · obtain ⟨b, o, rfl, hbl, hcell⟩ := HS.out.at (by omega)
      have g0 := labs_get xs j (by omega)
      have g1 := labs_get xs (j + 1) hlt
      have k0 : w.cell? ⟨b, o + j * 2, none⟩ = some (.string xs[j].name) := hcell _ _ g0.1
      have k1 : w.cell? ⟨b, o + j * 2 + 1, none⟩ = some (.string xs[j].value) := by rw [Nat.add_assoc]; exact hcell _ _ g0.2
      have k2 : w.cell? ⟨b, o + (j + 1) * 2, none⟩ = some (.string xs[j + 1].name) := hcell _ _ g1.1
      have k3 : w.cell? ⟨b, o + (j + 1) * 2 + 1, none⟩ = some (.string xs[j + 1].value) := by rw [Nat.add_assoc]; exact hcell _ _ g1.2
      clear hcell g0 g1
      obtain ⟨x, hx⟩ : ∃ x, x = xs[j] := ⟨_, rfl⟩
      obtain ⟨y, hy⟩ : ∃ y, y = xs[j + 1] := ⟨_, rfl⟩
      rw [← hx] at k0 k1
      rw [← hy] at k2 k3
      have HX := Lib.hid hx
      have HY := Lib.hid hy
      have HO := Lib.hid fun W => order_any x y W
      unfold labV at HO
      have i0 : (0 : Int) ≤ (j : Int) + 1 - 1 := by omega
      have i1 : ((j : Int) + 1) < (xs.length : Int) := by omega
      clear hx hy
      obtain ⟨q, hq⟩ : ∃ q, q = cmpS x.name y.name := ⟨_, rfl⟩
      rw [← hq] at HO
      cases hlt' : ltS x.name y.name
      · have hge : 0 ≤ q := by rw [hq]; exact cmpS_ge hlt'
        have HLT := Lib.hid hlt'
        clear hq hlt'
        go_wp2
        refine wp_region_ext (by kernel_rfl) (by kernel_rfl) ?_
        repeat (go_big_quiet_step ((first | (go_at_call 26; exact Calls.grew (HO.out _)))))
        refine wpQuiet_nil ?_
        intro _ hw'
        obtain ⟨y1, rfl⟩ := hw'
        go_wp2
        go_ret
        refine ⟨ret_bool ?_, (by repeat (first | exact Below.refl _ _ | apply bal | apply bext | apply bdr | apply bdrN | (refine bst ?_ _ (by simp only [ext_size, size_alloc, size_set]; omega))))⟩
        unfold labsB
        rw [rises_bad hlt (by rw [← HX.out, ← HY.out]; exact HLT.out)]
        rfl
      · have hge : q = -1 := by rw [hq]; exact cmpS_lt hlt'
        have HLT := Lib.hid hlt'
        clear hq hlt'
        subst hge
        go_wp2
        refine wp_region_ext (by kernel_rfl) (by kernel_rfl) ?_
        repeat (go_big_quiet_step ((first | (go_at_call 26; exact Calls.grew (HO.out _)))))
        refine wpQuiet_nil ?_
        intro _ hw'
        obtain ⟨y1, rfl⟩ := hw'
        go_wp2
        refine ⟨⟨j + 1, .inr (by omega), by go_num, fun q hq hqj => ?_, (by repeat (first | exact Below.refl _ _ | apply bal | apply bext | apply bdr | apply bdrN | (refine bst ?_ _ (by simp only [ext_size, size_alloc, size_set]; omega))))⟩, by simp [intOf]; omega⟩
        rcases Nat.lt_succ_iff_lt_or_eq.1 hqj with h | rfl
        · exact HA.out q hq h
        · rw [← HX.out, ← HY.out]
          exact HLT.out
    · have hr : risesB xs = true := rises_all fun q hq => HA.out q hq (by omega)
      have HR := Lib.hid hr
      clear hr
      go_wp2_with fail
      refine (HE.out _ (HS.out.stay (by repeat (first | exact Below.refl _ _ | apply bal | apply bext | apply bdr | apply bdrN | (refine bst ?_ _ (by simp only [ext_size, size_alloc, size_set]; omega)))))).mono ?_
      rintro e w1 ⟨rfl, hb1⟩
      obtain ⟨y1, rfl⟩ := ext_of hb1
      go_wp2
      go_ret
      refine ⟨ret_bool ?_, (by repeat (first | exact Below.refl _ _ | apply bal | apply bext | apply bdr | apply bdrN | (refine bst ?_ _ (by simp only [ext_size, size_alloc, size_set]; omega))))⟩
      unfold labsB
      rw [HR.out]
      rfl
end Go.Proofs.YtndgollcganhmaaDoor
/- The contract of label.Right, in the printer's form. -/
namespace Go.Proofs.YtndgollcganhmaaDoorQ.P
open Go.RowKit Go.Proofs.YtndgollcganhmaaDoorW.PrintWords Go.Proofs.YtndgollcganhmaaDoor
def toLab (x : S41) : Lab := ⟨x.f0, x.f1⟩
def ofLab (x : Lab) : S41 := ⟨x.name, x.value⟩
theorem to_of_lab (x : Lab) : toLab (ofLab x) = x := rfl
theorem of_to_lab (x : S41) : ofLab (toLab x) = x := rfl
theorem labs_to_of (xs : List Lab) : (xs.map ofLab).map toLab = xs := by simp [Function.comp_def, to_of_lab]
theorem labs_of_to (xs : List S41) : (xs.map toLab).map ofLab = xs := by simp [Function.comp_def, of_to_lab]
theorem labs_c {w : World} {A : Option Addr} {c : Nat} {xs : List S41} (h : Kd.C k41 w A xs.length xs) (hc : xs.length ≤ c) : SlAt w (.slice A xs.length c) 2 (xs.map toLab).length (labsC (xs.map toLab)) := by
  rw [List.length_map]
  exact slat_of_C (f := toLab) (en := labC) (fun h => k41_open h) (fun _ => rfl) (by decide) h hc
theorem labs_r {w : World} {B : Nat} {v : Value} {xs : List Lab} (h : w.ownsRow B 41 2 v xs.length (labsC xs)) : Kd.R k41 41 w B (fun _ => True) v (xs.map ofLab) :=
  R_of_own (g := ofLab) (en := labC) (fun w b ok y => k41_mkM w b ok (ofLab y)) (fun _ => rfl) h
def labOkB (x : S41) : Bool := decide (x.f0.size ≤ maxLen) && decide (x.f1.size ≤ maxLen)
def labsOkB (xs : List S41) : Bool := xs.all labOkB
theorem labs_ok {xs : List S41} (h : labsOkB xs = true) : LabsOk (xs.map toLab) := by
  intro x hx
  obtain ⟨y, hy, rfl⟩ := List.mem_map.1 hx
  have := List.all_eq_true.1 h y hy
  simp only [labOkB, Bool.and_eq_true, decide_eq_true_eq] at this
  exact this
theorem if_some {α : Type} {b : Bool} {x y : α} (h : (if b = true then some x else none) = some y) : b = true ∧ x = y := by
  split at h
  · exact ⟨‹_›, Option.some.inj h⟩
  · cases h
def label_Right.f (l0 : List (S41)) : Option (Bool) := if labsOkB l0 = true then some (labsB (l0.map toLab)) else none
theorem label_Right.calls (A0 : Option Addr) (c0 : Nat) (l0 : List (S41)) (r : Bool) (w : World) (hr0 : Kd.C k41 w A0 l0.length l0) (hc0 : l0.length ≤ c0) (h : label_Right.f l0 = some r) :
    Calls Tryd.prog 17 #[.slice A0 l0.length c0] w fun e w' => e = .returned (.bool r) ∧ Below w.heap.size w w' := by
  obtain ⟨h1, rfl⟩ := if_some h
  exact labRight_any _ _ w (labs_c hr0 hc0) (labs_ok h1)
end Go.Proofs.YtndgollcganhmaaDoorQ.P
/- Words for the plain laws: reads, sums and cuts as the printer spells them. No program in sight. -/
namespace Go.Proofs.YtndgollcganhmaaDoor
open Go.RowKit Go.Proofs.YtndgollcganhmaaDoorW.PrintWords Go.Proofs.YtndgollcganhmaaDoorW.PrintMore
theorem w64 {x : Int} (h0 : -9223372036854775808 ≤ x) (h1 : x ≤ 9223372036854775807) : wrap64 x = x := by unfold wrap64; omega
theorem w64s {i : Nat} (h : i < 9223372036854775807) : wrap64 ((i : Int) + 1) = ((i + 1 : Nat) : Int) := by rw [w64 (by omega) (by omega)]; omega
theorem getD_cast {α : Type} {z : α} {xs : List α} {i : Nat} (h : i < xs.length) : xs.getD (i : Int).toNat z = xs[i] := by
  rw [List.getD_eq_getElem?_getD, Int.toNat_natCast, List.getElem?_eq_getElem h]
  rfl
theorem drop_cons {α : Type} {xs : List α} {i : Nat} (h : i < xs.length) : xs.drop i = xs[i] :: xs.drop (i + 1) := List.drop_eq_getElem_cons h
theorem drop_end {α : Type} {xs : List α} {i : Nat} (h : xs.length ≤ i) : xs.drop i = [] := List.drop_eq_nil_of_le h
theorem mn_eq (a b : Int) : mn a b = min a b := by unfold mn; omega
theorem mx_eq (a b : Int) : mx a b = max a b := by unfold mx; omega
/-- A text's head, as a law cuts it. -/
def cutB (n : Nat) (x : ByteArray) : ByteArray := x.extract 0 n
theorem cutB_size (n : Nat) (x : ByteArray) : (cutB n x).size = min n x.size := by
  unfold cutB
  rw [ByteArray.size_extract]
  omega
theorem cutB_mn (n : Nat) (m : Int) (x : ByteArray) (hm : m = n) : x.extract 0 (mn (x.size : Int) m).toNat = cutB n x := by
  subst hm
  unfold cutB
  rw [mn_eq]
  apply ByteArray.ext
  rw [ByteArray.data_extract, ByteArray.data_extract]
  rcases Nat.le_total x.size n with h | h
  · rw [show (min (x.size : Int) n).toNat = x.size by omega]
    rw [Array.extract_eq_self_of_le (show x.data.size ≤ x.size from Nat.le_refl _), Array.extract_eq_self_of_le (show x.data.size ≤ n from h)]
  · rw [show (min (x.size : Int) n).toNat = n by omega]
theorem bool_bne_self (b : Bool) : (b != b) = false := by cases b <;> rfl
theorem take_mn {α : Type} (n : Nat) (m : Int) (xs : List α) (hm : m = n) : xs.take (mn (xs.length : Int) m).toNat = xs.take n := by
  subst hm
  rw [mn_eq]
  rcases Nat.le_total xs.length n with h | h
  · rw [List.take_of_length_le (by omega), List.take_of_length_le h]
  · rw [show (min (xs.length : Int) n).toNat = n by omega]
end Go.Proofs.YtndgollcganhmaaDoor
/- Hashes and their digits, plain. No program in sight. -/
namespace Go.Proofs.YtndgollcganhmaaDoor
open Go.RowKit
/-- One byte behind a hash. -/
def fnvS (h b : Int) : Int := IntKind.u64.wrap (Go.bits .xor .u64 h b * 1099511628211)
def fnvL (h : Int) (l : List UInt8) : Int := l.foldl (fun h b => fnvS h b.toNat) h
theorem wrap_u64 (n : Int) : IntKind.u64.wrap n = n % 18446744073709551616 := by simp [IntKind.wrap, IntKind.bits, IntKind.signed]
theorem fnvS_range (h b : Int) : 0 ≤ fnvS h b ∧ fnvS h b < 18446744073709551616 := by
  unfold fnvS
  rw [wrap_u64]
  omega
theorem fnvL_range (l : List UInt8) : ∀ h : Int, 0 ≤ h → h < 18446744073709551616 → 0 ≤ fnvL h l ∧ fnvL h l < 18446744073709551616 := by
  induction l with
  | nil => intro h h0 h1; exact ⟨h0, h1⟩
  | cons b l ih => intro h h0 h1; exact ih _ (fnvS_range h b.toNat).1 (fnvS_range h b.toNat).2
theorem fnvL_snoc (h : Int) (l : List UInt8) (b : UInt8) : fnvL h (l ++ [b]) = fnvS (fnvL h l) b.toNat := by simp [fnvL]
theorem fnvL_append (h : Int) (l m : List UInt8) : fnvL h (l ++ m) = fnvL (fnvL h l) m := by simp [fnvL]
def fnvB (h b : BitVec 64) : BitVec 64 := (h ^^^ b) * 1099511628211#64
theorem fnvB_eq (h b : BitVec 64) : fnvS (h.toNat : Int) (b.toNat : Int) = ((fnvB h b).toNat : Int) := by
  have ex : Go.bits .xor .u64 (h.toNat : Int) (b.toNat : Int) = ((h ^^^ b).toNat : Int) := by
    have h1 : BitVec.ofInt 64 (h.toNat : Int) = h := by apply BitVec.eq_of_toNat_eq; simp
    have h2 : BitVec.ofInt 64 (b.toNat : Int) = b := by apply BitVec.eq_of_toNat_eq; simp
    have : Go.bits .xor .u64 (h.toNat : Int) (b.toNat : Int) = ((BitVec.ofInt 64 (h.toNat : Int) ^^^ BitVec.ofInt 64 (b.toNat : Int)).toNat : Int) % 18446744073709551616 := by
      simp [Go.bits, IntKind.bits, IntKind.wrap, IntKind.signed]
      exact congrArg (fun x : Nat => (x : Int) % 18446744073709551616) (BitVec.toNat_xor h b)
    rw [this, h1, h2]
    have := (h ^^^ b).isLt
    omega
  unfold fnvS fnvB
  rw [ex, wrap_u64, BitVec.toNat_mul]
  simp
theorem fnvB_inj {h g b : BitVec 64} (e : fnvB h b = fnvB g b) : h = g := by
  unfold fnvB at e
  have e2 : (h ^^^ b) * 1099511628211#64 * 14886173955864302971#64 = (g ^^^ b) * 1099511628211#64 * 14886173955864302971#64 := by rw [e]
  rw [BitVec.mul_assoc, BitVec.mul_assoc, show 1099511628211#64 * 14886173955864302971#64 = 1#64 by decide, BitVec.mul_one, BitVec.mul_one] at e2
  have e3 : (h ^^^ b) ^^^ b = (g ^^^ b) ^^^ b := by rw [e2]
  simpa [BitVec.xor_assoc] using e3
theorem fnvB_comm (h b : BitVec 64) : fnvB h b = fnvB b h := by unfold fnvB; rw [BitVec.xor_comm]
theorem bv64 (a : Int) (h0 : 0 ≤ a) (h1 : a < 18446744073709551616) : ∃ x : BitVec 64, a = (x.toNat : Int) := ⟨BitVec.ofNat 64 a.toNat, by rw [BitVec.toNat_ofNat]; omega⟩
theorem fnvS_inj {h g b : Int} (h0 : 0 ≤ h ∧ h < 18446744073709551616) (g0 : 0 ≤ g ∧ g < 18446744073709551616) (b0 : 0 ≤ b ∧ b < 18446744073709551616) (e : fnvS h b = fnvS g b) : h = g := by
  obtain ⟨x, rfl⟩ := bv64 h h0.1 h0.2
  obtain ⟨y, rfl⟩ := bv64 g g0.1 g0.2
  obtain ⟨z, rfl⟩ := bv64 b b0.1 b0.2
  rw [fnvB_eq, fnvB_eq] at e
  have : fnvB x z = fnvB y z := BitVec.eq_of_toNat_eq (by omega)
  rw [fnvB_inj this]
theorem fnvS_inj2 {h b c : Int} (h0 : 0 ≤ h ∧ h < 18446744073709551616) (b0 : 0 ≤ b ∧ b < 18446744073709551616) (c0 : 0 ≤ c ∧ c < 18446744073709551616) (e : fnvS h b = fnvS h c) : b = c := by
  obtain ⟨x, rfl⟩ := bv64 h h0.1 h0.2
  obtain ⟨y, rfl⟩ := bv64 b b0.1 b0.2
  obtain ⟨z, rfl⟩ := bv64 c c0.1 c0.2
  rw [fnvB_eq, fnvB_eq] at e
  have : fnvB x y = fnvB x z := BitVec.eq_of_toNat_eq (by omega)
  rw [fnvB_comm x y, fnvB_comm x z] at this
  rw [fnvB_inj this]
theorem u8_u64 (b : UInt8) : 0 ≤ (b.toNat : Int) ∧ (b.toNat : Int) < 18446744073709551616 := by have := b.toNat_lt; omega
theorem fnvL_inj (l : List UInt8) : ∀ {h g : Int}, (0 ≤ h ∧ h < 18446744073709551616) → (0 ≤ g ∧ g < 18446744073709551616) → fnvL h l = fnvL g l → h = g := by
  induction l with
  | nil => intro h g _ _ e; exact e
  | cons b l ih =>
    intro h g h0 g0 e
    exact fnvS_inj h0 g0 (u8_u64 b) (ih (fnvS_range _ _) (fnvS_range _ _) e)
/-! ### digits -/
def hexC (n : Nat) : UInt8 := if n < 10 then UInt8.ofNat (48 + n) else UInt8.ofNat (87 + n)
/-- So many digits. -/
def hexD : Nat → Nat → List UInt8
  | 0, _ => []
  | k + 1, n => hexD k (n / 16) ++ [hexC (n % 16)]
theorem hexC_inj {a b : Nat} (ha : a < 16) (hb : b < 16) (h : hexC a = hexC b) : a = b := by
  have : ∀ a b : Fin 16, hexC a = hexC b → a = b := by decide
  have := this ⟨a, ha⟩ ⟨b, hb⟩ h
  exact congrArg Fin.val this
theorem hexD_len (k : Nat) : ∀ n, (hexD k n).length = k := by
  induction k with
  | zero => intro n; rfl
  | succ k ih => intro n; simp [hexD, ih]
theorem hexD_inj (k : Nat) : ∀ {a b : Nat}, a < 16 ^ k → b < 16 ^ k → hexD k a = hexD k b → a = b := by
  induction k with
  | zero => intro a b ha hb _; simp at ha hb; omega
  | succ k ih =>
    intro a b ha hb h
    simp only [hexD] at h
    obtain ⟨h1, h2⟩ := List.append_inj h (by rw [hexD_len, hexD_len])
    rw [Nat.pow_succ] at ha hb
    have q := ih (by omega) (by omega) h1
    have r := hexC_inj (Nat.mod_lt _ (by omega)) (Nat.mod_lt _ (by omega)) (List.singleton_inj.1 h2)
    omega
theorem hexD_zero (k : Nat) : hexD k 0 = List.replicate k 48 := by
  induction k with
  | zero => rfl
  | succ k ih =>
    rw [hexD, Nat.zero_div, ih, List.replicate_succ']
    rfl
/-- How many digits a number has, at least one. -/
def hexN (n : Nat) : Nat := if n < 16 then 1 else hexN (n / 16) + 1
def hexF (n : Nat) : List UInt8 := hexD (hexN n) n
theorem hexN_le (k : Nat) : ∀ n, n < 16 ^ (k + 1) → hexN n ≤ k + 1 := by
  induction k with
  | zero => intro n h; unfold hexN; rw [if_pos (by simpa using h)]; omega
  | succ k ih =>
    intro n h
    unfold hexN
    split
    · omega
    · have := ih (n / 16) (by rw [Nat.pow_succ] at h; omega)
      omega
theorem hexF_pad (k : Nat) : ∀ n, hexN n ≤ k → List.replicate (k - hexN n) 48 ++ hexF n = hexD k n := by
  induction k with
  | zero =>
    intro n h
    unfold hexN at h
    split at h <;> omega
  | succ k ih =>
    intro n h
    by_cases hn : n < 16
    · have e : hexN n = 1 := by unfold hexN; rw [if_pos hn]
      unfold hexF
      rw [e, hexD, hexD, hexD, show n / 16 = 0 by omega, hexD_zero]
      simp
    · have e : hexN n = hexN (n / 16) + 1 := by rw [hexN, if_neg hn]
      have := ih (n / 16) (by omega)
      unfold hexF at this ⊢
      rw [e, hexD, hexD, ← this, show k + 1 - (hexN (n / 16) + 1) = k - hexN (n / 16) by omega, List.append_assoc]
end Go.Proofs.YtndgollcganhmaaDoor
/- Contracts of finger.More. -/
namespace Go.Proofs.YtndgollcganhmaaDoor
open Go.RowKit
theorem setC2 (w : World) (a : Addr) (v v' : Value) : (w.setCell a v).setCell a v' = w.setCell a v' := by
  unfold World.setCell
  simp only [World.mk.injEq, and_true, true_and]
  apply Array.ext
  · simp
  · intro i h1 h2
    simp only [Array.getElem_modify]
    by_cases h : a.block = i
    · simp only [h, if_true]
      cases hc : w.heap[i]'(by simpa using h2) <;> simp only []
      split <;> simp
    · simp [h]
theorem fadd_any (b r : Int) (g : Nat) (w : World) (hc : w.cell? ⟨g,0,none⟩ = some (.int .u64 r)) (hf : w.frozen? ⟨g,0,none⟩ = false) (h0 : 0 ≤ r) (h1 : r < 18446744073709551616) (hb0 : 0 ≤ b) (hb : b < 256) :
    Calls Tryd.prog 14 #[.pointer (some ⟨g,0,none⟩), .int .u8 b] w fun e w' => e = .returned (.tuple #[]) ∧ w' = w.setCell ⟨g,0,none⟩ (.int .u64 (fnvS r b)) := by
  go_enter Tryd.func14, Tryd.ntmps14
  go_wp2
  go_end0
  exact ⟨rfl, rfl⟩
theorem take_sn (s : ByteArray) (k : Nat) (h : k < s.size) : s.data.toList.take (k + 1) = s.data.toList.take k ++ [s[k]] := by
  rw [List.take_succ_eq_append_getElem (by simpa using h)]; rfl
theorem fmore_any (s : Int) (t : ByteArray) (w : World) (ht : t.size ≤ maxLen) (h0 : 0 ≤ s) (h1 : s < 18446744073709551616) :
    Calls Tryd.prog 6 #[.int .u64 s, .string t] w fun e w' => e = .returned (.int .u64 (fnvL s t.data.toList)) ∧ Below w.heap.size w w' := by
  unfold maxLen at ht
  go_enter Tryd.func6, Tryd.ntmps6
  go_wp2
  go_loopw [7, 12] (fun _ i wr => ∃ k : Nat, k ≤ t.size ∧ i = .int .i64 k ∧ wr = w.alloc (.cells #[.int .u64 (fnvL s (t.data.toList.take k))] 36)) (fun _ i _ => t.size - (intOf i).toNat)
  case atStart => exact ⟨0, by omega, rfl, by simp [fnvL]⟩
  case round =>
    obtain ⟨k, hk, rfl, rfl⟩ := hrel
    have hr := fnvL_range (t.data.toList.take k) s h0 h1
    by_cases hlt : k < t.size
    · go_wp2_with (go_at_call 14; refine (fadd_any _ _ _ _ (by go_simp) (by go_simp) hr.1 hr.2 (by omega) (by have := (t[k]).toNat_lt; omega)).mono ?_; rintro e w' ⟨rfl, rfl⟩)
      refine ⟨⟨k+1, by omega, by go_num, ?_⟩, by simp [intOf]; omega⟩
      rw [take_sn t k hlt, fnvL_snoc]
    · obtain rfl : k = t.size := by omega
      go_wp2
      go_ret
      refine ⟨ret_int ?_, (Below.refl _ _).alloc (Nat.le_refl _) _⟩
      rw [List.take_of_length_le (by simp)]
end Go.Proofs.YtndgollcganhmaaDoor
/- Laws for the walk over a row of bytes that the call itself has made: an array in memory, cut, appended to, copied into, made a text. No program in sight. -/
namespace Go.Proofs.YtndgollcganhmaaDoor
open Go.RowKit
def u8 (x : Int) : UInt8 := UInt8.ofNat (x % 256).toNat
theorem u8_toNat (x : Int) : ((u8 x).toNat : Int) = x % 256 := by
  unfold u8
  rw [UInt8.toNat_ofNat']
  omega
def zeros (n : Nat) : List UInt8 := List.replicate n 0
theorem zeros_len (n : Nat) : (zeros n).length = n := by simp [zeros]
theorem lit_src (W : World) (arr : Array Value) (e : TypeId) (cells : List Value) (h : cells = arr.toList) : ∀ j v, cells[j]? = some v → (W.alloc (.cells arr e)).cell? ((⟨W.heap.size, 0, none⟩ : Addr).add j) = some v := by
  subst h
  intro j v hv
  have hadd : (⟨W.heap.size, 0, none⟩ : Addr).add j = ⟨W.heap.size, j, none⟩ := by unfold Addr.add; split <;> simp_all
  rw [hadd]
  exact blk_cell (blk_new W _) (by simpa using hv)
/-- Block g holds these bytes. -/
def Bts (W : World) (g : Nat) (t : TypeId) (l : List UInt8) : Prop := W.heap[g]? = some (.cells (Lib.byteCells l).toArray t (0, 0))
def bytesOf (s : ByteArray) : List UInt8 := s.data.toList
theorem results_tmp4 {fn : Func} {t u v x : Tmp} (h : fn.results = #[.tmp t, .tmp u, .tmp v, .tmp x]) (tmps : Array Value) (P : Program) (w : World) :
    (results fn tmps).run P w = .ok (.tuple #[tmps.getD t undef, tmps.getD u undef, tmps.getD v undef, tmps.getD x undef]) w := by
  simp [results, h]
theorem strOfNums_eq' (xs : List Int) : strOfNums xs = ⟨(xs.map fun x => UInt8.ofNat x.toNat).toArray⟩ := rfl
theorem splice_mid {α : Type} (A B C B' : List α) (n : Nat) (hA : A.length = n) (h : B'.length = B.length) : splice (A ++ (B ++ C)) n B' = A ++ (B' ++ C) := by
  subst hA
  unfold splice
  rw [List.take_left' rfl, h]
  congr 2
  rw [← List.drop_drop, List.drop_left' rfl, List.drop_left' rfl]
section
variable {P : Program} {ops : Array Oper} {rest : List Oper} {o : Oper} {a : Act} {Q : Exit → Act → World → Prop} {w w0 : World} {g : Nat} {t : TypeId} {l : List UInt8}
/-- A gate: this operation alone. -/
theorem gate (N : Tmp) (_ : o.dst = some N) (h : wpList P ops Q (o :: rest) a w) : wpList P ops Q (o :: rest) a w := h
theorem byteCells_splice (l : List UInt8) (off : Nat) (m : List UInt8) : splice (Lib.byteCells l) off (Lib.byteCells m) = Lib.byteCells (splice l off m) := by
  simp [splice, Lib.byteCells, List.map_take, List.map_drop]
theorem byteCells_get (l : List UInt8) (j : Nat) : (Lib.byteCells l)[j]? = (l[j]?).map fun b => Value.int .u8 b.toNat := by simp [Lib.byteCells]
theorem byteCells_one (l : List UInt8) : ∀ v ∈ Lib.byteCells l, v.oneCell' = true := by
  intro v hv
  obtain ⟨b, _, rfl⟩ := List.mem_map.1 hv
  rfl
theorem Bts.cell (h : Bts w g t l) {j : Nat} (hj : j < l.length) : w.cell? ⟨g, j, none⟩ = some (.int .u8 (l[j]).toNat) :=
  blk_cell h (by simp [Lib.byteCells, hj])
theorem name4 {W : World} {g : Nat} {t : TypeId} {L M : List UInt8} (h : Bts W g t L) (hL : M = L) : Hid (Bts W g t M) := by
  rw [hL]
  exact h
theorem Bts.drew (h : Bts w g t l) : Bts w.drew g t l := h
theorem Bts.below {W' : World} (h : Bts w g t l) (hb : Below w.heap.size w W') : Bts W' g t l := blk_below hb (blk_lt h) h
theorem Bts.lt (h : Bts w g t l) : g < w.heap.size := blk_lt h
/-- An array of bytes, all 0. -/
theorem ev_alloc (N : Tmp) (hN : o.dst = some N) (hg : o.guard = none) (n : Nat) (ho : o.op = .alloc t)
    (hrun : ∀ W : World, (Instr.alloc t true (.tuple #[])).run P W = .ok (.pointer (some ⟨W.heap.size, 0, none⟩)) (W.alloc (.cells (Lib.byteCells (zeros n)).toArray t)))
    (h : ∀ W g, w.heap.size ≤ g → g < W.heap.size → Hid (Bts W g t (zeros n)) → Below w.heap.size w W → wpList P ops Q rest (a.put (some N) (.pointer (some ⟨g, 0, none⟩))) W) : wpList P ops Q (o :: rest) a w := by
  refine wpList_plain hg fun K hK => ?_
  unfold Oper.wp
  simp only [execOp, ho]
  have hr := hrun w
  simp [hr, Result.andThen]
  rw [Oper.upon_value, hN]
  exact hK _ _ (h _ _ (Nat.le_refl _) (by simp) (blk_new _ _) (bal (Below.refl _ _) _))
theorem grown_setRow (w : World) (g : Nat) (cs : Array Value) : w.grownBy (w.setRow g cs) (some g) :=
  ⟨rfl, rfl, rfl, by simp [World.setRow], fun k hk hne => setRow_other w g k cs (by intro e; exact hne (by rw [e]))⟩
theorem grown_below {B : Nat} {w0 w w' : World} (hb : Below B w0 w) (hg : w.grownBy w' (some g)) (hB : B ≤ w.heap.size) (hBg : B ≤ g) : Below B w0 w' :=
  hb.grown hg hB (fun k hk => by injection hk with e; omega)
/-- copy(block g from off on, a text): as many bytes as the shorter of the two has. -/
theorem run_copy_str (dT sT ty elem : TypeId) (hu : P.underlying dT = some (.slice elem)) (hs : (P.info? elem).map (·.size) = some 1) (off dLen dCap : Nat) (s : ByteArray) (hb : Bts w g t l) (hfit : off + min s.size dLen ≤ l.length) :
    (Builtin.copy_ #[dT, sT] ty #[.slice (some ⟨g, off, none⟩) dLen dCap, .string s]).run P w =
      .ok (goInt (min s.size dLen)) (w.setRow g (Lib.byteCells (splice l off ((bytesOf s).take (min s.size dLen)))).toArray) := by
  have hlen : (Lib.byteCells ((bytesOf s).take (min s.size dLen))).length = min s.size dLen := by
    rw [Lib.byteCells_length, List.length_take]
    unfold bytesOf
    rw [len_data]
    omega
  have hst := run_storeCells_at P g off t (Lib.byteCells ((bytesOf s).take (min s.size dLen))) 0 (Lib.byteCells l).toArray w hb (by simp only [Nat.add_zero, List.size_toArray]; rw [hlen, Lib.byteCells_length]; exact hfit) (byteCells_one _)
  have hcells : ((s.extract 0 (min s.size dLen)).data.map fun b => Value.int .u8 b.toNat).toList = Lib.byteCells ((bytesOf s).take (min s.size dLen)) := by
    simp [Lib.byteCells, bytesOf, ByteArray.data_extract]
  cases hq : P.info? elem with
  | none => simp [hq] at hs
  | some i =>
    have hi : i.size = 1 := by simpa [hq] using hs
    simp only [Builtin.copy_]
    simp [run_underlying hu, Builtin.lenOf, Builtin.firstCells, sizeOf, typeInfo, hq, hi]
    have e2 : Nat.min s.size dLen = min s.size dLen := rfl
    rw [e2]
    have e3 : List.take (min s.size dLen) (List.map (fun b => Value.int IntKind.u8 ↑b.toNat) s.data.toList) = Lib.byteCells ((bytesOf s).take (min s.size dLen)) := by
      simp [Lib.byteCells, bytesOf, List.map_take]
    rw [e3, hst, Result.andThen_ok, ← byteCells_splice]
    congr 1
    · exact congrArg goInt (by omega)
    · unfold splice
      rw [List.append_assoc]
      rfl
theorem ev_copy_str (hgd : o.guard = none) (d s : Operand) (dT sT : TypeId) (ho : o.op = .call { callee := .builtin .copy, args := #[d, s], argTypes := #[dT, sT] }) (elem : TypeId) (hu : P.underlying dT = some (.slice elem)) (hs : (P.info? elem).map (·.size) = some 1)
    (off dLen dCap : Nat) (x : ByteArray) (hd : a.eval d = .slice (some ⟨g, off, none⟩) dLen dCap) (hx : a.eval s = .string x) (hb : Bts w g t l) (hfit : off + min x.size dLen ≤ l.length)
    (h : ∀ W, Hid (Bts W g t (splice l off ((bytesOf x).take (min x.size dLen)))) → w.grownBy W (some g) → wpList P ops Q rest (a.put o.dst (goInt (min x.size dLen))) W) : wpList P ops Q (o :: rest) a w := by
  refine wpList_plain hgd fun K hK => ?_
  have hrun := run_copy_str (P := P) dT sT o.type elem hu hs off dLen dCap x hb hfit
  unfold Oper.wp
  simp [execOp, ho, resolve, invoke, builtin, hd, hx, hrun, Result.andThen]
  exact hK _ _ (h _ (setRow_heap w g _ _ t _ hb) (grown_setRow w g _))
/-- As a step of a region that draws its order. -/
theorem st_copy_str {K : Act → World → Prop} {E : Prop} (hgd : o.guard = none) (d s : Operand) (dT sT : TypeId) (ho : o.op = .call { callee := .builtin .copy, args := #[d, s], argTypes := #[dT, sT] }) (elem : TypeId) (hu : P.underlying dT = some (.slice elem)) (hs : (P.info? elem).map (·.size) = some 1)
    (off dLen dCap : Nat) (x : ByteArray) (hd : a.eval d = .slice (some ⟨g, off, none⟩) dLen dCap) (hx : a.eval s = .string x) (hb : Bts w g t l) (hfit : off + min x.size dLen ≤ l.length)
    (h : ∀ W, Hid (Bts W g t (splice l off ((bytesOf x).take (min x.size dLen)))) → w.grownBy W (some g) → K (a.put o.dst (goInt (min x.size dLen))) W) : if Region.wanted o (yielded ops a.tmps) = true then Oper.wp P o a w K Q else E := by
  have hw : Region.wanted o (yielded ops a.tmps) = true := by simp [Region.wanted, hgd]
  rw [if_pos hw]
  have hrun := run_copy_str (P := P) dT sT o.type elem hu hs off dLen dCap x hb hfit
  unfold Oper.wp
  simp [execOp, ho, resolve, invoke, builtin, hd, hx, hrun, Result.andThen]
  exact h _ (setRow_heap w g _ _ t _ hb) (grown_setRow w g _)
/-- copy(block g from off on, a slice whose bytes are known). -/
theorem run_copy_bytes (dT sT ty elem : TypeId) (hu : P.underlying dT = some (.slice elem)) (hs : (P.info? elem).map (·.size) = some 1) (off dLen dCap : Nat) (ad : Addr) (sLen sCap : Nat) (cs : List UInt8) (hn : cs.length = Nat.min sLen dLen) (hb : Bts w g t l)
    (hsrc : ∀ j v, (Lib.byteCells cs)[j]? = some v → w.cell? (ad.add j) = some v) (hfit : off + cs.length ≤ l.length) :
    (Builtin.copy_ #[dT, sT] ty #[.slice (some ⟨g, off, none⟩) dLen dCap, .slice (some ad) sLen sCap]).run P w = .ok (goInt cs.length) (w.setRow g (Lib.byteCells (splice l off cs)).toArray) := by
  have := run_copy_row (P := P) w dT sT ty elem g off dLen dCap ad sLen sCap (Lib.byteCells l).toArray t (Lib.byteCells cs) hu hs hb (by rw [Lib.byteCells_length]; exact hn) hsrc (by rw [List.size_toArray, Lib.byteCells_length, Lib.byteCells_length]; exact hfit) (byteCells_one _)
  rw [this, ← byteCells_splice, Lib.byteCells_length]
  unfold splice
  rw [List.append_assoc, Lib.byteCells_length]
theorem st_copy_bytes {K : Act → World → Prop} {E : Prop} (hgd : o.guard = none) (d s : Operand) (dT sT : TypeId) (ho : o.op = .call { callee := .builtin .copy, args := #[d, s], argTypes := #[dT, sT] }) (elem : TypeId) (hu : P.underlying dT = some (.slice elem)) (hs : (P.info? elem).map (·.size) = some 1)
    (off dLen dCap : Nat) (ad : Addr) (sLen sCap : Nat) (cs : List UInt8) (hd : a.eval d = .slice (some ⟨g, off, none⟩) dLen dCap) (hx : a.eval s = .slice (some ad) sLen sCap) (hn : cs.length = Nat.min sLen dLen) (hb : Bts w g t l)
    (hsrc : ∀ j v, (Lib.byteCells cs)[j]? = some v → w.cell? (ad.add j) = some v) (hfit : off + cs.length ≤ l.length)
    (h : ∀ W, Hid (Bts W g t (splice l off cs)) → w.grownBy W (some g) → K (a.put o.dst (goInt cs.length)) W) : if Region.wanted o (yielded ops a.tmps) = true then Oper.wp P o a w K Q else E := by
  have hw : Region.wanted o (yielded ops a.tmps) = true := by simp [Region.wanted, hgd]
  rw [if_pos hw]
  have hrun := run_copy_bytes (P := P) dT sT o.type elem hu hs off dLen dCap ad sLen sCap cs hn hb hsrc hfit
  unfold Oper.wp
  simp [execOp, ho, resolve, invoke, builtin, hd, hx, hrun, Result.andThen]
  exact h _ (setRow_heap w g _ _ t _ hb) (grown_setRow w g _)
theorem Bts.src (h : Bts w g t l) (off : Nat) (cs : List UInt8) (hcs : ∀ j, j < cs.length → l[off + j]? = cs[j]?) : ∀ j v, (Lib.byteCells cs)[j]? = some v → w.cell? ((⟨g, off, none⟩ : Addr).add j) = some v := by
  intro j v hv
  rw [byteCells_get] at hv
  obtain ⟨b, hb, rfl⟩ := Option.map_eq_some_iff.1 hv
  have hj : j < cs.length := (List.getElem?_eq_some_iff.1 hb).1
  have hl := hcs j hj
  rw [hb] at hl
  have hadd : (⟨g, off, none⟩ : Addr).add j = ⟨g, off + j, none⟩ := by unfold Addr.add; split <;> simp_all
  rw [hadd]
  exact blk_cell h (by rw [List.getElem?_toArray, byteCells_get, hl]; rfl)
/-- append(a part of block g that has room, a few bytes). -/
theorem run_append_in (T ty e : TypeId) (i : TypeInfo) (hu : P.underlying T = some (.slice e)) (hi : P.info? e = some i) (hs : i.size = 1) (off n cap : Nat) (ad : Addr) (cs : List UInt8) (c : Nat) (hb : Bts w g t l)
    (hsrc : ∀ j v, (Lib.byteCells cs)[j]? = some v → w.cell? (ad.add j) = some v) (hroom : n + cs.length ≤ cap) (hfit : off + n + cs.length ≤ l.length) :
    (Builtin.append_ #[T, T] ty #[.slice (some ⟨g, off, none⟩) n cap, .slice (some ad) cs.length c]).run P w =
      .ok (.slice (some ⟨g, off, none⟩) (n + cs.length) cap) (w.setRow g (Lib.byteCells (splice l (off + n) cs)).toArray) := by
  have hl := run_loadCells_list (P := P) w ad (Lib.byteCells cs) hsrc
  rw [Lib.byteCells_length] at hl
  have hst := run_storeCells_at P g (off + n) t (Lib.byteCells cs) 0 (Lib.byteCells l).toArray w hb (by simp only [Nat.add_zero, List.size_toArray]; rw [Lib.byteCells_length, Lib.byteCells_length]; exact hfit) (byteCells_one _)
  have hadd : (⟨g, off, none⟩ : Addr).add n = ⟨g, off + n, none⟩ := by unfold Addr.add; split <;> simp_all
  simp [Builtin.append_, run_underlying hu, Builtin.lenOf, Builtin.firstCells, sizeOf, typeInfo, hi, hs, hl, hroom, hadd, hst]
  rw [← byteCells_splice]
  rfl
theorem ev_append_in (hgd : o.guard = none) (s x : Operand) (T e : TypeId) (ho : o.op = .call { callee := .builtin .append, args := #[s, x], argTypes := #[T, T] }) (i : TypeInfo) (hu : P.underlying T = some (.slice e)) (hi : P.info? e = some i) (hs : i.size = 1)
    (off n cap : Nat) (ad : Addr) (cs : List UInt8) (m c : Nat) (hm : m = cs.length) (hd : a.eval s = .slice (some ⟨g, off, none⟩) n cap) (hx : a.eval x = .slice (some ad) m c) (hb : Bts w g t l)
    (hsrc : ∀ j v, (Lib.byteCells cs)[j]? = some v → w.cell? (ad.add j) = some v) (hroom : n + cs.length ≤ cap) (hfit : off + n + cs.length ≤ l.length)
    (h : ∀ W, Hid (Bts W g t (splice l (off + n) cs)) → w.grownBy W (some g) → wpList P ops Q rest (a.put o.dst (.slice (some ⟨g, off, none⟩) (n + m) cap)) W) : wpList P ops Q (o :: rest) a w := by
  subst hm
  refine wpList_plain hgd fun K hK => ?_
  have hrun := run_append_in (P := P) T o.type e i hu hi hs off n cap ad cs c hb hsrc hroom hfit
  unfold Oper.wp
  simp [execOp, ho, resolve, invoke, builtin, hd, hx, hrun, Result.andThen]
  exact hK _ _ (h _ (setRow_heap w g _ _ t _ hb) (grown_setRow w g _))
/-- The text of a part of the row. -/
theorem run_text {src dst e : TypeId} (hs : P.underlying src = some (.slice e)) (he : P.underlying e = some (.int .u8)) (hd : P.underlying dst = some .string) (hb : Bts w g t l) (off n cap : Nat) (hfit : off + n ≤ l.length) :
    (convert src dst (.slice (some ⟨g, off, none⟩) n cap)).run P w = .ok (.string ⟨((l.drop off).take n).toArray⟩) w := by
  have hlen : ((l.drop off).take n).length = n := by rw [List.length_take, List.length_drop]; omega
  have := run_convert_bytes_arg (P := P) w src e hs he g off n cap (((l.drop off).take n).map fun b => (b.toNat : Int)) (by rw [List.length_map, hlen]) (fun i hi => by
    rw [hb.cell (show off + i < l.length by omega)]
    rw [List.getD_eq_getElem?_getD, List.getElem?_map, List.getElem?_take, if_pos hi, List.getElem?_drop, List.getElem?_eq_getElem (show off + i < l.length by omega)]
    rfl) dst hd
  have e : ((fun x : Int => UInt8.ofNat x.toNat) ∘ fun b : UInt8 => (b.toNat : Int)) = id := by
    funext b
    simp
  rw [this, strOfNums_eq', List.map_map, e, List.map_id]
end
end Go.Proofs.YtndgollcganhmaaDoor
/-
  DERIVED: THE SHELF's CONTRACTS AT THIS DUMP, IN PLAIN WORDS (tools/lay-plain.mjs out of 'TrydShelf.lean', which tools/lay-shelf.mjs wrote): THE SAME DECLARATIONS UNDER THE SAME NAMES: 'import', 'namespace', 'open', 'def', 'theorem' AND NOTHING ELSE: no command of the shelf's: FOR A HAND-IN. Each laying: the table of numbers ('.._ren') and one theorem, a field a fact of the dump's own or the kernel's comparison; each contract: ONE APPLICATION.
-/
namespace Go.Proofs
open Go.Shelf
def Tryd.lays170_ren : Go.Shelf.Ren := ⟨fun | 170 => 24 | n => n, fun | 70 => 47 | 3 => 3 | 0 => 0 | 72 => 49 | 37 => 27 | 5 => 5 | n => n, fun | n => n⟩
theorem Tryd.lays170 : Go.Proofs.Lays.n170 Tryd.prog Tryd.lays170_ren := {
  mixed := by kernel_rfl
  f170 := Tryd.func24.trans (congrArg some (by kernel_rfl))
  t0 := Tryd.underlying0
  a0 := Tryd.isAgg0
  z0 := Tryd.sizeOf0
  v0 := Tryd.zeroValue0
  t3 := Tryd.underlying3
  a3 := Tryd.isAgg3
  z3 := Tryd.sizeOf3
  v3 := Tryd.zeroValue3
  t37 := Tryd.underlying27
  a37 := Tryd.isAgg27
  z37 := Tryd.sizeOf27
  v37 := Tryd.zeroValue27
  t70 := Tryd.underlying47
  a70 := Tryd.isAgg47
  z70 := Tryd.sizeOf47
  v70 := Tryd.zeroValue47
  t72 := Tryd.underlying49
  a72 := Tryd.isAgg49
  z72 := Tryd.sizeOf49
  v72 := Tryd.zeroValue49 }
open Go.RowKit in
/-- (*strings.Builder).Len: "Len returns the number of accumulated bytes; b.Len() == len(b.String()).": the world is as it was. (LAID: no walk: one application.) -/
theorem Tryd.Builder_Len (B b : Nat) (bs : List Value) (w : World) (h : Lib.IsBuilder 49 5 B b bs w) :
    Calls Tryd.prog 24 #[.pointer (some ⟨b, 0, none⟩)] w fun e w' => e = .returned (.int .i64 bs.length) ∧ w' = w := Any.Builder_Len Tryd.lays170 B b bs w h
def Tryd.lays169_ren : Go.Shelf.Ren := ⟨fun | 169 => 25 | n => n, fun | 70 => 47 | 9 => 9 | 0 => 0 | 72 => 49 | 37 => 27 | 127 => 70 | 3 => 3 | 5 => 5 | n => n, fun | n => n⟩
theorem Tryd.lays169 : Go.Proofs.Lays.n169 Tryd.prog Tryd.lays169_ren := {
  mixed := by kernel_rfl
  f169 := Tryd.func25.trans (congrArg some (by kernel_rfl))
  t0 := Tryd.underlying0
  a0 := Tryd.isAgg0
  z0 := Tryd.sizeOf0
  v0 := Tryd.zeroValue0
  t3 := Tryd.underlying3
  a3 := Tryd.isAgg3
  z3 := Tryd.sizeOf3
  v3 := Tryd.zeroValue3
  t9 := Tryd.underlying9
  a9 := Tryd.isAgg9
  z9 := Tryd.sizeOf9
  v9 := Tryd.zeroValue9
  t37 := Tryd.underlying27
  a37 := Tryd.isAgg27
  z37 := Tryd.sizeOf27
  v37 := Tryd.zeroValue27
  t70 := Tryd.underlying47
  a70 := Tryd.isAgg47
  z70 := Tryd.sizeOf47
  v70 := Tryd.zeroValue47
  t72 := Tryd.underlying49
  a72 := Tryd.isAgg49
  z72 := Tryd.sizeOf49
  v72 := Tryd.zeroValue49
  t127 := Tryd.underlying70
  a127 := Tryd.isAgg70
  z127 := Tryd.sizeOf70
  v127 := Tryd.zeroValue70 }
theorem Tryd.Builder_Extra_169 : Builder.Extra Tryd.prog Tryd.lays169_ren := {
  sizeBuilder := by kernel_rfl
  liesBuilder := by kernel_rfl
  t5 := Tryd.underlying5
  a5 := Tryd.isAgg5
  z5 := Tryd.sizeOf5
  v5 := Tryd.zeroValue5
  infoByte := by kernel_rfl
  cellsByte := by kernel_rfl
  sizeByte := by kernel_rfl
  neB5 := by decide }
open Go.RowKit in
/-- (*strings.Builder).String: "String returns the accumulated string.": OF A BUILDER THAT HOLDS AT LEAST ONE BYTE. ✋ THE MODEL FREEZES THOSE BYTES IN THE BUFFER (unsafe.String): a later write INTO them ends the model's run without an answer; a later append BEHIND them goes on. The statement's order of evaluation is drawn: one draw. (LAID: no walk: one application.) -/
theorem Tryd.Builder_String (B b : Nat) (l : List UInt8) (w : World) (h : Lib.IsBuilder 49 5 B b (Lib.byteCells l) w) (h0 : l ≠ []) :
    Calls Tryd.prog 25 #[.pointer (some ⟨b, 0, none⟩)] w fun e w' => e = .returned (.string ⟨l.toArray⟩) ∧ Below B w w' := Any.Builder_String Tryd.lays169 Tryd.Builder_Extra_169 B b l w h h0
open Go.RowKit in
/-- (*strings.Builder).String OF A BUILDER THAT HOLDS NO BYTE: the empty string. (Its buffer is nil, or a row of which it has taken nothing yet; where that row has NO capacity the model lays one new block for unsafe.SliceData's 'some address'.) One draw. (LAID: no walk: one application.) -/
theorem Tryd.Builder_String_empty (B b : Nat) (w : World) (h : Lib.IsBuilder 49 5 B b [] w) (hBw : B ≤ w.heap.size) :
    Calls Tryd.prog 25 #[.pointer (some ⟨b, 0, none⟩)] w fun e w' => e = .returned (.string ⟨#[]⟩) ∧ Below B w w' := Any.Builder_String_empty Tryd.lays169 Tryd.Builder_Extra_169 B b w h hBw
open Go.RowKit in
/-- (*strings.Builder).String: "String returns the accumulated string.": WHATEVER THE BUILDER HOLDS. (LAID: no walk: one application.) -/
theorem Tryd.Builder_String_any (B b : Nat) (l : List UInt8) (w : World) (h : Lib.IsBuilder 49 5 B b (Lib.byteCells l) w) (hBw : B ≤ w.heap.size) :
    Calls Tryd.prog 25 #[.pointer (some ⟨b, 0, none⟩)] w fun e w' => e = .returned (.string ⟨l.toArray⟩) ∧ Below B w w' := Any.Builder_String_any Tryd.lays169 Tryd.Builder_Extra_169 B b l w h hBw
def Tryd.lays241_ren : Go.Shelf.Ren := ⟨fun | 241 => 38 | 277 => 49 | n => n, fun | 70 => 47 | 3 => 3 | 0 => 0 | 72 => 49 | 37 => 27 | 5 => 5 | n => n, fun | n => n⟩
theorem Tryd.lays241 : Go.Proofs.Lays.n241 Tryd.prog Tryd.lays241_ren := {
  mixed := by kernel_rfl
  f241 := Tryd.func38.trans (congrArg some (by kernel_rfl))
  f277 := Tryd.func49.trans (congrArg some (by kernel_rfl))
  t0 := Tryd.underlying0
  a0 := Tryd.isAgg0
  z0 := Tryd.sizeOf0
  v0 := Tryd.zeroValue0
  t3 := Tryd.underlying3
  a3 := Tryd.isAgg3
  z3 := Tryd.sizeOf3
  v3 := Tryd.zeroValue3
  t37 := Tryd.underlying27
  a37 := Tryd.isAgg27
  z37 := Tryd.sizeOf27
  v37 := Tryd.zeroValue27
  t70 := Tryd.underlying47
  a70 := Tryd.isAgg47
  z70 := Tryd.sizeOf47
  v70 := Tryd.zeroValue47
  t72 := Tryd.underlying49
  a72 := Tryd.isAgg49
  z72 := Tryd.sizeOf49
  v72 := Tryd.zeroValue49 }
theorem Tryd.Builder_Extra_241 : Builder.Extra Tryd.prog Tryd.lays241_ren := {
  sizeBuilder := by kernel_rfl
  liesBuilder := by kernel_rfl
  t5 := Tryd.underlying5
  a5 := Tryd.isAgg5
  z5 := Tryd.sizeOf5
  v5 := Tryd.zeroValue5
  infoByte := by kernel_rfl
  cellsByte := by kernel_rfl
  sizeByte := by kernel_rfl
  neB5 := by decide }
open Go.RowKit in
/-- (*strings.Builder).grow (no doc but "grow copies the buffer to a new, larger buffer so that there are at least n bytes of capacity beyond len(b.buf)."): AT A BUILDER WITHOUT A BUFFER: a new row of whatever bytes for its buffer, none of them its own yet. Three draws. (LAID: no walk: one application.) -/
theorem Tryd.Builder_grow_fresh (B b n : Nat) (w : World) (hB : B ≤ b) (hbk : w.heap[b]? = some (.cells #[.pointer (some ⟨b, 0, none⟩), .slice none 0 0] 49 (0, 0))) (hBw : B ≤ w.heap.size) (hn : n ≤ 281474976710656) :
    Calls Tryd.prog 38 #[.pointer (some ⟨b, 0, none⟩), .int .i64 n] w fun e w' => e = .returned (.tuple #[]) ∧ (Lib.BuilderAt 49 5 B b (.pointer (some ⟨b, 0, none⟩)) [] w' ∧ Below B w w') := Any.Builder_grow_fresh Tryd.lays241 Tryd.Builder_Extra_241 B b n w hB hbk hBw hn
def Tryd.lays165_ren : Go.Shelf.Ren := ⟨fun | 165 => 22 | 240 => 37 | 241 => 38 | 276 => 48 | 277 => 49 | n => n, fun | 70 => 47 | 3 => 3 | 0 => 0 | 4 => 4 | 9 => 9 | 20 => 20 | 72 => 49 | 37 => 27 | 164 => 80 | 5 => 5 | n => n, fun | n => n⟩
theorem Tryd.lays165 : Go.Proofs.Lays.n165 Tryd.prog Tryd.lays165_ren := {
  mixed := by kernel_rfl
  f165 := Tryd.func22.trans (congrArg some (by kernel_rfl))
  f240 := Tryd.func37.trans (congrArg some (by kernel_rfl))
  f241 := Tryd.func38.trans (congrArg some (by kernel_rfl))
  f276 := Tryd.func48.trans (congrArg some (by kernel_rfl))
  f277 := Tryd.func49.trans (congrArg some (by kernel_rfl))
  t0 := Tryd.underlying0
  a0 := Tryd.isAgg0
  z0 := Tryd.sizeOf0
  v0 := Tryd.zeroValue0
  t3 := Tryd.underlying3
  a3 := Tryd.isAgg3
  z3 := Tryd.sizeOf3
  v3 := Tryd.zeroValue3
  t4 := Tryd.underlying4
  a4 := Tryd.isAgg4
  z4 := Tryd.sizeOf4
  v4 := Tryd.zeroValue4
  t9 := Tryd.underlying9
  a9 := Tryd.isAgg9
  z9 := Tryd.sizeOf9
  v9 := Tryd.zeroValue9
  t20 := Tryd.underlying20
  a20 := Tryd.isAgg20
  z20 := Tryd.sizeOf20
  v20 := Tryd.zeroValue20
  t37 := Tryd.underlying27
  a37 := Tryd.isAgg27
  z37 := Tryd.sizeOf27
  v37 := Tryd.zeroValue27
  t70 := Tryd.underlying47
  a70 := Tryd.isAgg47
  z70 := Tryd.sizeOf47
  v70 := Tryd.zeroValue47
  t72 := Tryd.underlying49
  a72 := Tryd.isAgg49
  z72 := Tryd.sizeOf49
  v72 := Tryd.zeroValue49
  t164 := Tryd.underlying80
  a164 := Tryd.isAgg80
  z164 := Tryd.sizeOf80
  v164 := Tryd.zeroValue80 }
theorem Tryd.Builder_Extra_165 : Builder.Extra Tryd.prog Tryd.lays165_ren := {
  sizeBuilder := by kernel_rfl
  liesBuilder := by kernel_rfl
  t5 := Tryd.underlying5
  a5 := Tryd.isAgg5
  z5 := Tryd.sizeOf5
  v5 := Tryd.zeroValue5
  infoByte := by kernel_rfl
  cellsByte := by kernel_rfl
  sizeByte := by kernel_rfl
  neB5 := by decide }
open Go.RowKit in
/-- (*strings.Builder).Grow AT A BUILDER THAT HAS NOT BEEN WRITTEN ('var b strings.Builder; b.Grow(n)'): "Grow grows b's capacity, if necessary, to guarantee space for another n bytes.": it holds no byte behind it as before it. (LAID: no walk: one application.) -/
theorem Tryd.Builder_Grow_fresh (B b n : Nat) (w : World) (hB : B ≤ b) (hbk : w.heap[b]? = some (.cells #[.pointer none, .slice none 0 0] 49 (0, 0))) (hBw : B ≤ w.heap.size) (hn : n ≤ 281474976710656) :
    Calls Tryd.prog 22 #[.pointer (some ⟨b, 0, none⟩), .int .i64 n] w fun e w' => e = .returned (.tuple #[]) ∧ (Lib.BuilderAt 49 5 B b (.pointer (some ⟨b, 0, none⟩)) [] w' ∧ Below B w w') := Any.Builder_Grow_fresh Tryd.lays165 Tryd.Builder_Extra_165 B b n w hB hbk hBw hn
open Go.RowKit in
/-- (*strings.Builder).Len: "Len returns the number of accumulated bytes; b.Len() == len(b.String()).": the world is as it was. (THE FORM '_f': 'Lib.IsBuilderF'.) (LAID: no walk: one application.) -/
theorem Tryd.Builder_Len_f (B b : Nat) (bs : List Value) (w : World) (h : Lib.IsBuilderF 49 5 B b bs w) :
    Calls Tryd.prog 24 #[.pointer (some ⟨b, 0, none⟩)] w fun e w' => e = .returned (.int .i64 bs.length) ∧ w' = w := Any.Builder_Len_f Tryd.lays170 B b bs w h
open Go.RowKit in
/-- (*strings.Builder).String: "String returns the accumulated string.": OF A BUILDER THAT HOLDS AT LEAST ONE BYTE. ✋ THE MODEL FREEZES THOSE BYTES IN THE BUFFER (unsafe.String): a later write INTO them ends the model's run without an answer; a later append BEHIND them goes on. The statement's order of evaluation is drawn: one draw. THE FORM '_f': IT SAYS BESIDES THAT THE BUILDER IS A BUILDER STILL ('Lib.IsBuilderF', the same bytes): SO IT CAN BE WRITTEN ON: 'b.WriteString(b.String()[:k])'. (LAID: no walk: one application.) -/
theorem Tryd.Builder_String_f (B b : Nat) (l : List UInt8) (w : World) (h : Lib.IsBuilderF 49 5 B b (Lib.byteCells l) w) (h0 : l ≠ []) :
    Calls Tryd.prog 25 #[.pointer (some ⟨b, 0, none⟩)] w fun e w' => e = .returned (.string ⟨l.toArray⟩) ∧ (Lib.IsBuilderF 49 5 B b (Lib.byteCells l) w' ∧ Below B w w') := Any.Builder_String_f Tryd.lays169 Tryd.Builder_Extra_169 B b l w h h0
open Go.RowKit in
/-- (*strings.Builder).String OF A BUILDER THAT HOLDS NO BYTE: the empty string; THE FORM '_f': a builder still. (LAID: no walk: one application.) -/
theorem Tryd.Builder_String_empty_f (B b : Nat) (w : World) (h : Lib.IsBuilderF 49 5 B b [] w) (hBw : B ≤ w.heap.size) :
    Calls Tryd.prog 25 #[.pointer (some ⟨b, 0, none⟩)] w fun e w' => e = .returned (.string ⟨#[]⟩) ∧ (Lib.IsBuilderF 49 5 B b [] w' ∧ Below B w w') := Any.Builder_String_empty_f Tryd.lays169 Tryd.Builder_Extra_169 B b w h hBw
open Go.RowKit in
/-- (*strings.Builder).String: "String returns the accumulated string.": WHATEVER THE BUILDER HOLDS; THE FORM '_f': OF A BUILDER THAT MAY HAVE BEEN READ BEFORE; AND IT IS A BUILDER STILL, holding the same bytes: it can be written on. (LAID: no walk: one application.) -/
theorem Tryd.Builder_String_any_f (B b : Nat) (l : List UInt8) (w : World) (h : Lib.IsBuilderF 49 5 B b (Lib.byteCells l) w) (hBw : B ≤ w.heap.size) :
    Calls Tryd.prog 25 #[.pointer (some ⟨b, 0, none⟩)] w fun e w' => e = .returned (.string ⟨l.toArray⟩) ∧ (Lib.IsBuilderF 49 5 B b (Lib.byteCells l) w' ∧ Below B w w') := Any.Builder_String_any_f Tryd.lays169 Tryd.Builder_Extra_169 B b l w h hBw
open Go.RowKit in
/-- (*strings.Builder).String: "String returns the accumulated string.": OF A BUILDER THAT HOLDS AT LEAST ONE BYTE. ✋ THE MODEL FREEZES THOSE BYTES IN THE BUFFER (unsafe.String): a later write INTO them ends the model's run without an answer; a later append BEHIND them goes on. The statement's order of evaluation is drawn: one draw. THE FORM '_k': OVER 'Lib.IsBuilderF' (a builder that 'String()' may have read), AND WITH THE FRAME THAT REACHES ABOVE THE BUILDER: 'Lib.OthersKept': every block that is not b and is no row of uint8's stands as it stood: the iterator of a range among them. (LAID: no walk: one application.) -/
theorem Tryd.Builder_String_k (B b : Nat) (l : List UInt8) (w : World) (h : Lib.IsBuilderF 49 5 B b (Lib.byteCells l) w) (h0 : l ≠ []) :
    Calls Tryd.prog 25 #[.pointer (some ⟨b, 0, none⟩)] w fun e w' => e = .returned (.string ⟨l.toArray⟩) ∧ (Lib.IsBuilderF 49 5 B b (Lib.byteCells l) w' ∧ Below B w w' ∧ Lib.OthersKept 5 (some b) w w') := Any.Builder_String_k Tryd.lays169 Tryd.Builder_Extra_169 B b l w h h0
open Go.RowKit in
/-- (*strings.Builder).String OF A BUILDER THAT HOLDS NO BYTE: the empty string; THE FORM '_k': OVER 'Lib.IsBuilderF' (a builder that 'String()' may have read), AND WITH THE FRAME THAT REACHES ABOVE THE BUILDER: 'Lib.OthersKept': every block that is not b and is no row of uint8's stands as it stood: the iterator of a range among them. (LAID: no walk: one application.) -/
theorem Tryd.Builder_String_empty_k (B b : Nat) (w : World) (h : Lib.IsBuilderF 49 5 B b [] w) (hBw : B ≤ w.heap.size) :
    Calls Tryd.prog 25 #[.pointer (some ⟨b, 0, none⟩)] w fun e w' => e = .returned (.string ⟨#[]⟩) ∧ (Lib.IsBuilderF 49 5 B b [] w' ∧ Below B w w' ∧ Lib.OthersKept 5 (some b) w w') := Any.Builder_String_empty_k Tryd.lays169 Tryd.Builder_Extra_169 B b w h hBw
open Go.RowKit in
/-- (*strings.Builder).String: "String returns the accumulated string.": WHATEVER THE BUILDER HOLDS; THE FORM '_k': OVER 'Lib.IsBuilderF' (a builder that 'String()' may have read), AND WITH THE FRAME THAT REACHES ABOVE THE BUILDER: 'Lib.OthersKept': every block that is not b and is no row of uint8's stands as it stood: the iterator of a range among them. (LAID: no walk: one application.) -/
theorem Tryd.Builder_String_any_k (B b : Nat) (l : List UInt8) (w : World) (h : Lib.IsBuilderF 49 5 B b (Lib.byteCells l) w) (hBw : B ≤ w.heap.size) :
    Calls Tryd.prog 25 #[.pointer (some ⟨b, 0, none⟩)] w fun e w' => e = .returned (.string ⟨l.toArray⟩) ∧ (Lib.IsBuilderF 49 5 B b (Lib.byteCells l) w' ∧ Below B w w' ∧ Lib.OthersKept 5 (some b) w w') := Any.Builder_String_any_k Tryd.lays169 Tryd.Builder_Extra_169 B b l w h hBw
open Go.RowKit in
/-- (*strings.Builder).grow (no doc but "grow copies the buffer to a new, larger buffer so that there are at least n bytes of capacity beyond len(b.buf)."): AT A BUILDER WITHOUT A BUFFER: a new row of whatever bytes for its buffer, none of them its own yet. Three draws. (LAID: no walk: one application.) -/
theorem Tryd.Builder_grow_fresh_cap (B b n : Nat) (w : World) (hB : B ≤ b) (hbk : w.heap[b]? = some (.cells #[.pointer (some ⟨b, 0, none⟩), .slice none 0 0] 49 (0, 0))) (hBw : B ≤ w.heap.size) (hn : n ≤ 281474976710656) :
    Calls Tryd.prog 38 #[.pointer (some ⟨b, 0, none⟩), .int .i64 n] w fun e w' => e = .returned (.tuple #[]) ∧ (Lib.BuilderAt 49 5 B b (.pointer (some ⟨b, 0, none⟩)) [] w' ∧ Below B w w') ∧ ∃ p cap, w'.cell? ⟨b, 1, none⟩ = some (.slice p 0 cap) ∧ n ≤ cap := Any.Builder_grow_fresh_cap Tryd.lays241 Tryd.Builder_Extra_241 B b n w hB hbk hBw hn
open Go.RowKit in
/-- (*strings.Builder).Grow AT A BUILDER THAT HAS NOT BEEN WRITTEN ('var b strings.Builder; b.Grow(n)'): "Grow grows b's capacity, if necessary, to guarantee space for another n bytes.": it holds no byte behind it as before it. (LAID: no walk: one application.) -/
theorem Tryd.Builder_Grow_fresh_cap (B b n : Nat) (w : World) (hB : B ≤ b) (hbk : w.heap[b]? = some (.cells #[.pointer none, .slice none 0 0] 49 (0, 0))) (hBw : B ≤ w.heap.size) (hn : n ≤ 281474976710656) :
    Calls Tryd.prog 22 #[.pointer (some ⟨b, 0, none⟩), .int .i64 n] w fun e w' => e = .returned (.tuple #[]) ∧ (Lib.BuilderAt 49 5 B b (.pointer (some ⟨b, 0, none⟩)) [] w' ∧ Below B w w') ∧ ∃ p cap, w'.cell? ⟨b, 1, none⟩ = some (.slice p 0 cap) ∧ n ≤ cap := Any.Builder_Grow_fresh_cap Tryd.lays165 Tryd.Builder_Extra_165 B b n w hB hbk hBw hn
def Tryd.lays129_ren : Go.Shelf.Ren := ⟨fun | 129 => 44 | n => n, fun | 53 => 22 | 3 => 3 | 4 => 4 | 46 => 43 | 5 => 5 | 9 => 9 | n => n, fun | n => n⟩
theorem Tryd.lays129 : Go.Proofs.Lays.n129 Tryd.prog Tryd.lays129_ren := {
  mixed := by kernel_rfl
  f129 := Tryd.func44.trans (congrArg some (by kernel_rfl))
  t3 := Tryd.underlying3
  a3 := Tryd.isAgg3
  z3 := Tryd.sizeOf3
  v3 := Tryd.zeroValue3
  t4 := Tryd.underlying4
  a4 := Tryd.isAgg4
  z4 := Tryd.sizeOf4
  v4 := Tryd.zeroValue4
  t5 := Tryd.underlying5
  a5 := Tryd.isAgg5
  z5 := Tryd.sizeOf5
  v5 := Tryd.zeroValue5
  t9 := Tryd.underlying9
  a9 := Tryd.isAgg9
  z9 := Tryd.sizeOf9
  v9 := Tryd.zeroValue9
  t46 := Tryd.underlying43
  a46 := Tryd.isAgg43
  z46 := Tryd.sizeOf43
  v46 := Tryd.zeroValue43
  t53 := Tryd.underlying22
  a53 := Tryd.isAgg22
  z53 := Tryd.sizeOf22
  v53 := Tryd.zeroValue22 }
/-- bits.Len64: "Len64 returns the minimum number of bits required to represent x; the result is 0 for x == 0.": IT RETURNS 'Lib.bitLen x'; the world is as it was. ('h0', 'h1': x is a uint64.) (LAID: no walk: one application.) -/
theorem Tryd.bits_Len64 (x : Int) (w : World) (h0 : 0 ≤ x) (h1 : x ≤ 18446744073709551615) :
    Calls Tryd.prog 44 #[.int .u64 x] w fun e w' => e = .returned (.int .i64 (Lib.bitLen x.toNat)) ∧ w' = w := Any.bits_Len64 Tryd.lays129 x w h0 h1
def Tryd.lays317_ren : Go.Shelf.Ren := ⟨fun | 317 => 43 | n => n, fun | 3 => 3 | 46 => 43 | n => n, fun | n => n⟩
theorem Tryd.lays317 : Go.Proofs.Lays.n317 Tryd.prog Tryd.lays317_ren := {
  mixed := by kernel_rfl
  f317 := Tryd.func43.trans (congrArg some (by kernel_rfl))
  t3 := Tryd.underlying3
  a3 := Tryd.isAgg3
  z3 := Tryd.sizeOf3
  v3 := Tryd.zeroValue3
  t46 := Tryd.underlying43
  a46 := Tryd.isAgg43
  z46 := Tryd.sizeOf43
  v46 := Tryd.zeroValue43 }
open Go.Lib in
/-- internal/strconv.log10Pow2: "log10Pow2(x) returns ⌊log₁₀ 2**x⌋ = ⌊x * log₁₀ 2⌋.": '(x * 78913) >> 18', at an x up to 64 (a length in bits). The world is as it was. (LAID: no walk: one application.) -/
theorem Tryd.internal_strconv_log10Pow2 (x : Nat) (h : x ≤ 64) (w : World) :
    Calls Tryd.prog 43 #[.int .i64 x] w fun e w' => e = .returned (.int .i64 (Lib.l10 x)) ∧ w' = w := Any.internal_strconv_log10Pow2 Tryd.lays317 x h w
def Tryd.lays318_ren : Go.Shelf.Ren := ⟨fun | 318 => 45 | n => n, fun | 3 => 3 | 4 => 4 | n => n, fun | n => n⟩
theorem Tryd.lays318 : Go.Proofs.Lays.n318 Tryd.prog Tryd.lays318_ren := {
  mixed := by kernel_rfl
  f318 := Tryd.func45.trans (congrArg some (by kernel_rfl))
  t3 := Tryd.underlying3
  a3 := Tryd.isAgg3
  z3 := Tryd.sizeOf3
  v3 := Tryd.zeroValue3
  t4 := Tryd.underlying4
  a4 := Tryd.isAgg4
  z4 := Tryd.sizeOf4
  v4 := Tryd.zeroValue4 }
open Go.Lib in
/-- internal/strconv.bool2: "bool2 converts b to an integer: 1 for true, 0 for false." The world is as it was. (LAID: no walk: one application.) -/
theorem Tryd.internal_strconv_bool2_int (b : Bool) (w : World) :
    Calls Tryd.prog 45 #[.bool b] w fun e w' => e = .returned (.int .i64 (if b then 1 else 0)) ∧ w' = w := Any.internal_strconv_bool2_int Tryd.lays318 b w
def Tryd.lays283_ren : Go.Shelf.Ren := ⟨fun | 283 => 30 | n => n, fun | 3 => 3 | 9 => 9 | 4 => 4 | n => n, fun | n => n⟩
theorem Tryd.lays283 : Go.Proofs.Lays.n283 Tryd.prog Tryd.lays283_ren := {
  mixed := by kernel_rfl
  f283 := Tryd.func30.trans (congrArg some (by kernel_rfl))
  t3 := Tryd.underlying3
  a3 := Tryd.isAgg3
  z3 := Tryd.sizeOf3
  v3 := Tryd.zeroValue3
  t4 := Tryd.underlying4
  a4 := Tryd.isAgg4
  z4 := Tryd.sizeOf4
  v4 := Tryd.zeroValue4
  t9 := Tryd.underlying9
  a9 := Tryd.isAgg9
  z9 := Tryd.sizeOf9
  v9 := Tryd.zeroValue9 }
open Go.Lib in
/-- internal/strconv.small: "small returns the string for an i with 0 <= i < nSmalls.": i's decimal numeral. The world is as it was. (LAID: no walk: one application.) -/
theorem Tryd.internal_strconv_small (i : Nat) (h : i < 100) (w : World) :
    Calls Tryd.prog 30 #[.int .i64 i] w fun e w' => e = .returned (.string ⟨(Lib.decDigits i).toArray⟩) ∧ w' = w := Any.internal_strconv_small Tryd.lays283 i h w
def Tryd.laysM284_ren : Go.Shelf.Ren := ⟨fun | 284 => 31 | 129 => 44 | 317 => 43 | 318 => 45 | n => n, fun | 53 => 22 | 3 => 3 | 212 => 76 | 0 => 0 | 4 => 4 | 46 => 43 | 5 => 5 | 9 => 9 | n => n, fun | 17 => 0 | n => n⟩
theorem Tryd.laysM284 : Go.Proofs.LaysM.n284 Tryd.prog Tryd.laysM284_ren := {
  mixed := by kernel_rfl
  f129 := Tryd.func44.trans (congrArg some (by kernel_rfl))
  f284 := Tryd.func31.trans (congrArg some (by kernel_rfl))
  f317 := Tryd.func43.trans (congrArg some (by kernel_rfl))
  f318 := Tryd.func45.trans (congrArg some (by kernel_rfl))
  t0 := Tryd.underlying0
  a0 := Tryd.isAgg0
  z0 := Tryd.sizeOf0
  v0 := Tryd.zeroValue0
  t3 := Tryd.underlying3
  a3 := Tryd.isAgg3
  z3 := Tryd.sizeOf3
  v3 := Tryd.zeroValue3
  t4 := Tryd.underlying4
  a4 := Tryd.isAgg4
  z4 := Tryd.sizeOf4
  v4 := Tryd.zeroValue4
  t5 := Tryd.underlying5
  a5 := Tryd.isAgg5
  z5 := Tryd.sizeOf5
  v5 := Tryd.zeroValue5
  t9 := Tryd.underlying9
  a9 := Tryd.isAgg9
  z9 := Tryd.sizeOf9
  v9 := Tryd.zeroValue9
  t46 := Tryd.underlying43
  a46 := Tryd.isAgg43
  z46 := Tryd.sizeOf43
  v46 := Tryd.zeroValue43
  t53 := Tryd.underlying22
  a53 := Tryd.isAgg22
  z53 := Tryd.sizeOf22
  v53 := Tryd.zeroValue22
  t212 := Tryd.underlying76
  a212 := Tryd.isAgg76
  z212 := Tryd.sizeOf76
  v212 := Tryd.zeroValue76
  g17 := by kernel_rfl
  i0 := by kernel_rfl
  i3 := by kernel_rfl
  i4 := by kernel_rfl
  i5 := by kernel_rfl
  i9 := by kernel_rfl
  i46 := by kernel_rfl
  i53 := by kernel_rfl
  i212 := by kernel_rfl
  m17 := by kernel_rfl }
open Go.Lib in
/-- internal/strconv.numDigits, at a d that is not 0: THE NUMBER OF d's DECIMAL DIGITS. The world is as it was. (LAID: no walk: one application.) -/
theorem Tryd.internal_strconv_numDigits (u : Nat) (h1 : 1 ≤ u) (h2 : u < 18446744073709551616) (w : World) (htab : Lib.TabIs Tryd.prog w "internal/strconv.uint64pow10" .u64 Lib.pow10Tab) :
    Calls Tryd.prog 31 #[.int .u64 u] w fun e w' => e = .returned (.int .i64 (Lib.nDigits u)) ∧ w' = w := Any.internal_strconv_numDigits Tryd.laysM284 u h1 h2 w htab
def Tryd.lays285_ren : Go.Shelf.Ren := ⟨fun | 285 => 32 | n => n, fun | 37 => 27 | 53 => 22 | 3 => 3 | 4 => 4 | 51 => 65 | 9 => 9 | 5 => 5 | 0 => 0 | n => n, fun | n => n⟩
theorem Tryd.lays285 : Go.Proofs.Lays.n285 Tryd.prog Tryd.lays285_ren := {
  mixed := by kernel_rfl
  f285 := Tryd.func32.trans (congrArg some (by kernel_rfl))
  t0 := Tryd.underlying0
  a0 := Tryd.isAgg0
  z0 := Tryd.sizeOf0
  v0 := Tryd.zeroValue0
  t3 := Tryd.underlying3
  a3 := Tryd.isAgg3
  z3 := Tryd.sizeOf3
  v3 := Tryd.zeroValue3
  t4 := Tryd.underlying4
  a4 := Tryd.isAgg4
  z4 := Tryd.sizeOf4
  v4 := Tryd.zeroValue4
  t5 := Tryd.underlying5
  a5 := Tryd.isAgg5
  z5 := Tryd.sizeOf5
  v5 := Tryd.zeroValue5
  t9 := Tryd.underlying9
  a9 := Tryd.isAgg9
  z9 := Tryd.sizeOf9
  v9 := Tryd.zeroValue9
  t37 := Tryd.underlying27
  a37 := Tryd.isAgg27
  z37 := Tryd.sizeOf27
  v37 := Tryd.zeroValue27
  t51 := Tryd.underlying65
  a51 := Tryd.isAgg65
  z51 := Tryd.sizeOf65
  v51 := Tryd.zeroValue65
  t53 := Tryd.underlying22
  a53 := Tryd.isAgg22
  z53 := Tryd.sizeOf22
  v53 := Tryd.zeroValue22 }
open Go.RowKit Go.Sort Go.Lib in
/-- internal/strconv.formatBase10: "formatBase10 formats the decimal representation of u into a. The caller is responsible for ensuring that a is big enough to hold u. If a is too big, leading zeros will be filled in as needed.": THE ROW HOLDS u's DIGITS ('FmtInv .. 0 ..': every place t holds 'dg u (len - 1 - t)'); all else is as it was but for the count of draws. (LAID: no walk: one application.) -/
theorem Tryd.internal_strconv_formatBase10 (blk off cap : Nat) (u : Nat) (d : Array UInt8) (w : World) (hH : Holds (fun (b : UInt8) => Value.int .u8 (b.toNat : Int)) w blk off d) (hu : u < 10 ^ d.size) (hu64 : u < 18446744073709551616) (hsz : d.size < 4611686018427387904) :
    Calls Tryd.prog 32 #[.slice (some ⟨blk, off, none⟩) d.size cap, .int .u64 u] w fun e w' =>
      e = .returned (.tuple #[]) ∧ ∃ (n v' : Nat) (dk : Array UInt8), w' = (putRow (fun (b : UInt8) => Value.int .u8 (b.toNat : Int)) w blk off dk).drewN n ∧ FmtInv d.size u 0 v' dk := Any.internal_strconv_formatBase10 Tryd.lays285 blk off cap u d w hH hu hu64 hsz
def Tryd.lays206_ren : Go.Shelf.Ren := ⟨fun | 206 => 36 | n => n, fun | 9 => 9 | 4 => 4 | 3 => 3 | n => n, fun | n => n⟩
theorem Tryd.lays206 : Go.Proofs.Lays.n206 Tryd.prog Tryd.lays206_ren := {
  mixed := by kernel_rfl
  f206 := Tryd.func36.trans (congrArg some (by kernel_rfl))
  t3 := Tryd.underlying3
  a3 := Tryd.isAgg3
  z3 := Tryd.sizeOf3
  v3 := Tryd.zeroValue3
  t4 := Tryd.underlying4
  a4 := Tryd.isAgg4
  z4 := Tryd.sizeOf4
  v4 := Tryd.zeroValue4
  t9 := Tryd.underlying9
  a9 := Tryd.isAgg9
  z9 := Tryd.sizeOf9
  v9 := Tryd.zeroValue9 }
open Go.RowKit Go.Lib in
/-- internal/stringslite.HasPrefix (what strings.HasPrefix calls). (LAID: no walk: one application.) -/
theorem Tryd.stringslite_HasPrefix (s p : ByteArray) (w : World) :
    Calls Tryd.prog 36 #[.string s, .string p] w fun e w' => e = .returned (.bool (Lib.hasPrefix s.data.toList p.data.toList)) ∧ w' = w := Any.stringslite_HasPrefix Tryd.lays206 s p w
def Tryd.lays99_ren : Go.Shelf.Ren := ⟨fun | 99 => 21 | 206 => 36 | n => n, fun | 9 => 9 | 4 => 4 | 3 => 3 | n => n, fun | n => n⟩
theorem Tryd.lays99 : Go.Proofs.Lays.n99 Tryd.prog Tryd.lays99_ren := {
  mixed := by kernel_rfl
  f99 := Tryd.func21.trans (congrArg some (by kernel_rfl))
  f206 := Tryd.func36.trans (congrArg some (by kernel_rfl))
  t3 := Tryd.underlying3
  a3 := Tryd.isAgg3
  z3 := Tryd.sizeOf3
  v3 := Tryd.zeroValue3
  t4 := Tryd.underlying4
  a4 := Tryd.isAgg4
  z4 := Tryd.sizeOf4
  v4 := Tryd.zeroValue4
  t9 := Tryd.underlying9
  a9 := Tryd.isAgg9
  z9 := Tryd.sizeOf9
  v9 := Tryd.zeroValue9 }
open Go.RowKit Go.Lib in
/-- strings.HasPrefix: "HasPrefix reports whether the string s begins with prefix.": IT RETURNS 'Lib.hasPrefix s prefix'; the world is as it was. (LAID: no walk: one application.) -/
theorem Tryd.strings_HasPrefix (s p : ByteArray) (w : World) :
    Calls Tryd.prog 21 #[.string s, .string p] w fun e w' => e = .returned (.bool (Lib.hasPrefix s.data.toList p.data.toList)) ∧ w' = w := Any.strings_HasPrefix Tryd.lays99 s p w
def Tryd.lays264_ren : Go.Shelf.Ren := ⟨fun | 264 => 35 | n => n, fun | 53 => 22 | 46 => 43 | n => n, fun | n => n⟩
theorem Tryd.lays264 : Go.Proofs.Lays.n264 Tryd.prog Tryd.lays264_ren := {
  mixed := by kernel_rfl
  f264 := Tryd.func35.trans (congrArg some (by kernel_rfl))
  t46 := Tryd.underlying43
  a46 := Tryd.isAgg43
  z46 := Tryd.sizeOf43
  v46 := Tryd.zeroValue43
  t53 := Tryd.underlying22
  a53 := Tryd.isAgg22
  z53 := Tryd.sizeOf22
  v53 := Tryd.zeroValue22 }
open Go.RowKit Go.Lib in
theorem Tryd.bits_Mul64 (x y : Nat) (hx : x < 18446744073709551616) (hy : y < 18446744073709551616) (w : World) :
    Calls Tryd.prog 35 #[.int .u64 x, .int .u64 y] w fun e w' => e = .returned (.tuple #[.int .u64 ((x * y / 18446744073709551616 : Nat) : Int), .int .u64 ((x * y % 18446744073709551616 : Nat) : Int)]) ∧ w' = w := Any.bits_Mul64 Tryd.lays264 x y hx hy w
def Tryd.lays212_ren : Go.Shelf.Ren := ⟨fun | 212 => 20 | 263 => 34 | 264 => 35 | n => n, fun | 46 => 43 | 51 => 65 | 146 => 66 | 53 => 22 | 148 => 68 | n => n, fun | n => n⟩
theorem Tryd.lays212 : Go.Proofs.Lays.n212 Tryd.prog Tryd.lays212_ren := {
  mixed := by kernel_rfl
  f212 := Tryd.func20.trans (congrArg some (by kernel_rfl))
  f263 := Tryd.func34.trans (congrArg some (by kernel_rfl))
  f264 := Tryd.func35.trans (congrArg some (by kernel_rfl))
  t46 := Tryd.underlying43
  a46 := Tryd.isAgg43
  z46 := Tryd.sizeOf43
  v46 := Tryd.zeroValue43
  t51 := Tryd.underlying65
  a51 := Tryd.isAgg65
  z51 := Tryd.sizeOf65
  v51 := Tryd.zeroValue65
  t53 := Tryd.underlying22
  a53 := Tryd.isAgg22
  z53 := Tryd.sizeOf22
  v53 := Tryd.zeroValue22
  t146 := Tryd.underlying66
  a146 := Tryd.isAgg66
  z146 := Tryd.sizeOf66
  v146 := Tryd.zeroValue66
  t148 := Tryd.underlying68
  a148 := Tryd.isAgg68
  z148 := Tryd.sizeOf68
  v148 := Tryd.zeroValue68 }
open Go.RowKit Go.Lib in
/-- math/bits.Mul: "Mul returns the full-width product of x and y": on a machine of 64 bits: Mul64's. (LAID: no walk: one application.) -/
theorem Tryd.bits_Mul (x y : Nat) (hx : x < 18446744073709551616) (hy : y < 18446744073709551616) (w : World) :
    Calls Tryd.prog 20 #[.int .u64 x, .int .u64 y] w fun e w' => e = .returned (.tuple #[.int .u64 ((x * y / 18446744073709551616 : Nat) : Int), .int .u64 ((x * y % 18446744073709551616 : Nat) : Int)]) ∧ w' = w := Any.bits_Mul Tryd.lays212 x y hx hy w
def Tryd.lays105_ren : Go.Shelf.Ren := ⟨fun | 105 => 16 | 212 => 20 | 99 => 21 | 165 => 22 | 166 => 23 | 170 => 24 | 169 => 25 | 263 => 34 | 264 => 35 | 206 => 36 | 240 => 37 | 241 => 38 | 276 => 48 | 277 => 49 | n => n, fun | 9 => 9 | 3 => 3 | 4 => 4 | 20 => 20 | 0 => 0 | 46 => 43 | 109 => 44 | 5 => 5 | 72 => 49 | 76 => 53 | 51 => 65 | 146 => 66 | 53 => 22 | 148 => 68 | 70 => 47 | 37 => 27 | 75 => 52 | 127 => 70 | 164 => 80 | 80 => 56 | n => n, fun | n => n⟩
theorem Tryd.lays105 : Go.Proofs.Lays.n105 Tryd.prog Tryd.lays105_ren := {
  mixed := by kernel_rfl
  f99 := Tryd.func21.trans (congrArg some (by kernel_rfl))
  f105 := Tryd.func16.trans (congrArg some (by kernel_rfl))
  f165 := Tryd.func22.trans (congrArg some (by kernel_rfl))
  f166 := Tryd.func23.trans (congrArg some (by kernel_rfl))
  f169 := Tryd.func25.trans (congrArg some (by kernel_rfl))
  f170 := Tryd.func24.trans (congrArg some (by kernel_rfl))
  f206 := Tryd.func36.trans (congrArg some (by kernel_rfl))
  f212 := Tryd.func20.trans (congrArg some (by kernel_rfl))
  f240 := Tryd.func37.trans (congrArg some (by kernel_rfl))
  f241 := Tryd.func38.trans (congrArg some (by kernel_rfl))
  f263 := Tryd.func34.trans (congrArg some (by kernel_rfl))
  f264 := Tryd.func35.trans (congrArg some (by kernel_rfl))
  f276 := Tryd.func48.trans (congrArg some (by kernel_rfl))
  f277 := Tryd.func49.trans (congrArg some (by kernel_rfl))
  t0 := Tryd.underlying0
  a0 := Tryd.isAgg0
  z0 := Tryd.sizeOf0
  v0 := Tryd.zeroValue0
  t3 := Tryd.underlying3
  a3 := Tryd.isAgg3
  z3 := Tryd.sizeOf3
  v3 := Tryd.zeroValue3
  t4 := Tryd.underlying4
  a4 := Tryd.isAgg4
  z4 := Tryd.sizeOf4
  v4 := Tryd.zeroValue4
  t5 := Tryd.underlying5
  a5 := Tryd.isAgg5
  z5 := Tryd.sizeOf5
  v5 := Tryd.zeroValue5
  t9 := Tryd.underlying9
  a9 := Tryd.isAgg9
  z9 := Tryd.sizeOf9
  v9 := Tryd.zeroValue9
  t20 := Tryd.underlying20
  a20 := Tryd.isAgg20
  z20 := Tryd.sizeOf20
  v20 := Tryd.zeroValue20
  t37 := Tryd.underlying27
  a37 := Tryd.isAgg27
  z37 := Tryd.sizeOf27
  v37 := Tryd.zeroValue27
  t46 := Tryd.underlying43
  a46 := Tryd.isAgg43
  z46 := Tryd.sizeOf43
  v46 := Tryd.zeroValue43
  t51 := Tryd.underlying65
  a51 := Tryd.isAgg65
  z51 := Tryd.sizeOf65
  v51 := Tryd.zeroValue65
  t53 := Tryd.underlying22
  a53 := Tryd.isAgg22
  z53 := Tryd.sizeOf22
  v53 := Tryd.zeroValue22
  t70 := Tryd.underlying47
  a70 := Tryd.isAgg47
  z70 := Tryd.sizeOf47
  v70 := Tryd.zeroValue47
  t72 := Tryd.underlying49
  a72 := Tryd.isAgg49
  z72 := Tryd.sizeOf49
  v72 := Tryd.zeroValue49
  t75 := Tryd.underlying52
  a75 := Tryd.isAgg52
  z75 := Tryd.sizeOf52
  v75 := Tryd.zeroValue52
  t76 := Tryd.underlying53
  a76 := Tryd.isAgg53
  z76 := Tryd.sizeOf53
  v76 := Tryd.zeroValue53
  t109 := Tryd.underlying44
  a109 := Tryd.isAgg44
  z109 := Tryd.sizeOf44
  v109 := Tryd.zeroValue44
  t127 := Tryd.underlying70
  a127 := Tryd.isAgg70
  z127 := Tryd.sizeOf70
  v127 := Tryd.zeroValue70
  t146 := Tryd.underlying66
  a146 := Tryd.isAgg66
  z146 := Tryd.sizeOf66
  v146 := Tryd.zeroValue66
  t148 := Tryd.underlying68
  a148 := Tryd.isAgg68
  z148 := Tryd.sizeOf68
  v148 := Tryd.zeroValue68
  t164 := Tryd.underlying80
  a164 := Tryd.isAgg80
  z164 := Tryd.sizeOf80
  v164 := Tryd.zeroValue80 }
theorem Tryd.Builder_Extra_105 : Builder.Extra Tryd.prog Tryd.lays105_ren := {
  sizeBuilder := by kernel_rfl
  liesBuilder := by kernel_rfl
  t5 := Tryd.underlying5
  a5 := Tryd.isAgg5
  z5 := Tryd.sizeOf5
  v5 := Tryd.zeroValue5
  infoByte := by kernel_rfl
  cellsByte := by kernel_rfl
  sizeByte := by kernel_rfl
  neB5 := by decide }
open Go.RowKit Go.Lib in
/-- THE MAIN CASE: at least two copies of a string that is not empty. (LAID: no walk: one application.) -/
theorem Tryd.strings_Repeat_main (s : ByteArray) (c : Nat) (w : World) (hc2 : 2 ≤ c) (hc : c ≤ 9223372036854775807) (hlen : s.size * c ≤ 140737488355328) (h0 : 0 < s.size) :
    Calls Tryd.prog 16 #[.string s, .int .i64 c] w fun e w' => e = .returned (.string ⟨(Lib.repeatL s.data.toList c).toArray⟩) ∧ Below w.heap.size w w' := Any.strings_Repeat_main Tryd.lays105 Tryd.Builder_Extra_105 s c w hc2 hc hlen h0
open Go.RowKit Go.Lib in
theorem Tryd.strings_Repeat_zero (s : ByteArray) (w : World) :
    Calls Tryd.prog 16 #[.string s, .int .i64 0] w fun e w' => e = .returned (.string ⟨#[]⟩) ∧ w' = w := Any.strings_Repeat_zero Tryd.lays105 s w
open Go.RowKit Go.Lib in
theorem Tryd.strings_Repeat_one (s : ByteArray) (w : World) :
    Calls Tryd.prog 16 #[.string s, .int .i64 1] w fun e w' => e = .returned (.string s) ∧ w' = w := Any.strings_Repeat_one Tryd.lays105 s w
open Go.RowKit Go.Lib in
/-- Copies of the empty string. (LAID: no walk: one application.) -/
theorem Tryd.strings_Repeat_empty (s : ByteArray) (c : Nat) (w : World) (hc2 : 2 ≤ c) (hc : c ≤ 9223372036854775807) (h0 : s.size = 0) :
    Calls Tryd.prog 16 #[.string s, .int .i64 c] w fun e w' => e = .returned (.string ⟨#[]⟩) ∧ w' = w := Any.strings_Repeat_empty Tryd.lays105 s c w hc2 hc h0
open Go.RowKit Go.Lib in
/-- count < 0: "It panics if count is negative". (LAID: no walk: one application.) -/
theorem Tryd.strings_Repeat_negative (s : ByteArray) (c : Int) (w : World) (hc : c < 0) :
    Calls Tryd.prog 16 #[.string s, .int .i64 c] w fun e w' => e = .panicked [{ v := repeatPanic Tryd.lays105_ren "strings: negative Repeat count", recovered := false }] ∧ w' = w := Any.strings_Repeat_negative Tryd.lays105 s c w hc
open Go.RowKit Go.Lib in
/-- len(s) * count is no int: ".. or if the result of (len(s) * count) overflows". (LAID: no walk: one application.) -/
theorem Tryd.strings_Repeat_overflow (s : ByteArray) (c : Nat) (w : World) (hc : c ≤ 9223372036854775807) (hs : s.size ≤ 9223372036854775807) (hbig : 9223372036854775807 < s.size * c) :
    Calls Tryd.prog 16 #[.string s, .int .i64 c] w fun e w' => e = .panicked [{ v := repeatPanic Tryd.lays105_ren "strings: Repeat output length overflow", recovered := false }] ∧ w' = w := Any.strings_Repeat_overflow Tryd.lays105 s c w hc hs hbig
open Go.RowKit Go.Lib in
/-- **strings.Repeat: count ≥ 0, the result within one allocation: count copies of s.** (LAID: no walk: one application.) -/
theorem Tryd.strings_Repeat (s : ByteArray) (c : Nat) (w : World) (hc : c ≤ 9223372036854775807) (hlen : s.size * c ≤ 140737488355328) :
    Calls Tryd.prog 16 #[.string s, .int .i64 c] w fun e w' => e = .returned (.string ⟨(Lib.repeatL s.data.toList c).toArray⟩) ∧ Below w.heap.size w w' := Any.strings_Repeat Tryd.lays105 Tryd.Builder_Extra_105 s c w hc hlen
end Go.Proofs
/- Contracts of strconv.FormatUint at base 16 and of finger.Hex. -/
namespace Go.Proofs.YtndgollcganhmaaDoor
open Go.RowKit
attribute [local go_sem high] ext_size ext_cell ext_frozen alloc_cell alloc_frozen
attribute [local go_sem] lt_more lt_suc drew_size drew_cell
theorem pow2_any (w : World) : Calls Tryd.prog 46 #[.int .i64 16] w fun e w' => e = .returned (.bool true) ∧ w = w' := by
  go_enter Tryd.func46, Tryd.ntmps46
  go_wp2
  go_ret
  exact ⟨rfl, rfl⟩
theorem hexD_cons (k : Nat) : ∀ n, hexD (k + 1) n = hexC (n / 16 ^ k % 16) :: hexD k n := by
  induction k with
  | zero => intro n; simp [hexD]
  | succ k ih =>
    intro n
    rw [hexD, ih, hexD, Nat.div_div_eq_div_mul, Nat.pow_succ, Nat.mul_comm 16]
    rfl
theorem tz_any (w : World) (hT : Lib.TabIs Tryd.prog w "math/bits.deBruijn64tab" .u8 Go.Proofs.YtndgollcganhmaaDoorQ.tab_math_bits_deBruijn64tab) :
    Calls Tryd.prog 47 #[.int .u64 16] w fun e w' => e = .returned (.int .i64 4) ∧ w = w' := by
  have hc : w.cell? ⟨3, 15, none⟩ = some (.int .u8 4) := hT.cell (by kernel_rfl) 15 (by decide)
  have hx : (IntKind.u64.wrap (bits BinOp.and IntKind.u64 16 (IntKind.u64.wrap (-16)) * 285870213051353865) / 288230376151711744).toNat = 15 := by decide +kernel
  have h64 : Calls Tryd.prog 55 #[.int .u64 16] w fun e w' => e = .returned (.int .i64 4) ∧ w = w' := by
    go_enter Tryd.func55, Tryd.ntmps55
    go_wp2
    go_ret
    exact ⟨rfl, rfl⟩
  have H64 := Lib.hid h64
  clear h64 hc hx
  go_enter Tryd.func47, Tryd.ntmps47
  go_wp2_with (go_at_call 55; refine H64.out.mono ?_; rintro e w' ⟨rfl, rfl⟩)
  go_ret
  exact ⟨rfl, rfl⟩
theorem and15 (u : Nat) (hu : u < 18446744073709551616) : Go.bits .and .u64 (u : Int) 15 = ((u % 16 : Nat) : Int) := by
  obtain ⟨x, hx⟩ := bv64 (u : Int) (by omega) (by omega)
  have hx' : u = x.toNat := by omega
  subst hx'
  have h1 : BitVec.ofInt 64 (x.toNat : Int) = x := by apply BitVec.eq_of_toNat_eq; simp
  have : Go.bits .and .u64 (x.toNat : Int) 15 = ((BitVec.ofInt 64 (x.toNat : Int) &&& 15#64).toNat : Int) % 18446744073709551616 := by
    simp [Go.bits, IntKind.bits, IntKind.wrap, IntKind.signed]
    exact congrArg (fun x : Nat => (x : Int) % 18446744073709551616) (BitVec.toNat_and x 15#64)
  rw [this, h1, BitVec.toNat_and]
  have h2 : x.toNat &&& (15#64).toNat = x.toNat % 16 := Nat.and_two_pow_sub_one_eq_mod x.toNat 4
  rw [h2]
  omega
theorem add_plain0 (g m : Nat) : (⟨g, 0, none⟩ : Addr).add m = ⟨g, m, none⟩ := by unfold Addr.add; split <;> simp_all
set_option maxRecDepth 100000 in
theorem digs_at (n : Nat) (hn : n < 16) (h : n < (ByteArray.mk #[48, 49, 50, 51, 52, 53, 54, 55, 56, 57, 97, 98, 99, 100, 101, 102, 103, 104, 105, 106, 107, 108, 109, 110, 111, 112, 113, 114, 115, 116, 117, 118, 119, 120, 121, 122]).size) : (ByteArray.mk #[48, 49, 50, 51, 52, 53, 54, 55, 56, 57, 97, 98, 99, 100, 101, 102, 103, 104, 105, 106, 107, 108, 109, 110, 111, 112, 113, 114, 115, 116, 117, 118, 119, 120, 121, 122])[n]'h = hexC n := by
  have : ∀ n : Fin 16, (ByteArray.mk #[48, 49, 50, 51, 52, 53, 54, 55, 56, 57, 97, 98, 99, 100, 101, 102, 103, 104, 105, 106, 107, 108, 109, 110, 111, 112, 113, 114, 115, 116, 117, 118, 119, 120, 121, 122]).data.toList[n.val]? = some (hexC n) := by decide
  have h2 := this ⟨n, hn⟩
  obtain ⟨h3, h4⟩ := List.getElem?_eq_some_iff.1 h2
  rw [← h4]
  rfl
theorem bts_set {w : World} {g : Nat} {t : TypeId} {l : List UInt8} (h : Bts w g t l) (j : Nat) (b : UInt8) : Bts (w.setCell ⟨g, j, none⟩ (.int .u8 b.toNat)) g t (l.set j b) := by
  unfold Bts
  have := blk_set h j (.int .u8 b.toNat)
  rw [this]
  congr 2
  apply Array.ext'
  rw [Array.toList_setIfInBounds]
  simp [Lib.byteCells, List.map_set]
theorem zeros_set (m : Nat) (r : List UInt8) (b : UInt8) : (zeros (m + 1) ++ r).set m b = zeros m ++ b :: r := by
  unfold zeros
  rw [List.replicate_succ', List.append_assoc, List.set_append_right (h := by simp)]
  simp
theorem fbits_any (u : Nat) (w : World) (hu : u < 18446744073709551616) (hT : Lib.TabIs Tryd.prog w "math/bits.deBruijn64tab" .u8 Go.Proofs.YtndgollcganhmaaDoorQ.tab_math_bits_deBruijn64tab) :
    Calls Tryd.prog 33 #[.slice none 0 0, .int .u64 u, .int .i64 16, .bool false, .bool false] w fun e w' => e = .returned (.tuple #[.slice none 0 0, .string ⟨(hexF u).toArray⟩]) ∧ Below w.heap.size w w' := by
  have hal : ∀ W : World, (Instr.alloc 77 true (.tuple #[])).run Tryd.prog W = .ok (.pointer (some ⟨W.heap.size, 0, none⟩)) (W.alloc (.cells (Lib.byteCells (zeros 65)).toArray 77)) := fun W => by kernel_rfl
  have HA := Lib.hid hal
  have HP := Lib.hid fun W => pow2_any W
  have HZ := Lib.hid fun W (h : Below w.heap.size w W) => tz_any W (Lib.tabBelow_of_tabIs hT _ h)
  clear hal hT
  go_enter Tryd.func33, Tryd.ntmps33
  go_wp2_with (first
    | (with_reducible refine ev_alloc 12 rfl rfl 65 rfl HA.out ?_; intro W1 g hg hz1 HB1 hb1)
    | (go_at_call 46; refine (HP.out _).mono ?_; rintro e w' ⟨rfl, rfl⟩)
    | (go_at_call 47; refine (HZ.out _ hb1).mono ?_; rintro e w' ⟨rfl, rfl⟩))
  go_loopw [1, 13] (fun v i wr => ∃ j m : Nat, m + j = 65 ∧ j ≤ 15 ∧ v = .int .u64 ((u / 16 ^ j : Nat) : Int) ∧ i = .int .i64 (m : Int) ∧ hexN u = hexN (u / 16 ^ j) + j ∧ Hid (Bts wr g 77 (zeros m ++ hexD j u)) ∧ Below w.heap.size w wr) (fun v _ _ => (intOf v).toNat)
  case atStart => exact ⟨0, 65, rfl, by omega, by simp, rfl, by simp, Lib.hid (by simpa [hexD] using HB1.out), hb1⟩
  case round =>
    obtain ⟨j, m, hm, hj, rfl, rfl, hn, HB, hb⟩ := hrel
    obtain ⟨q, hq⟩ : ∃ q, q = u / 16 ^ j := ⟨_, rfl⟩
    have hqu : q ≤ u := by rw [hq]; exact Nat.div_le_self _ _
    rw [← hq] at hn ⊢
    have HN := Lib.hid hn
    have HQ := Lib.hid hq
    obtain ⟨m, rfl⟩ : ∃ k, m = k + 1 := ⟨m - 1, by omega⟩
    have hlen : (zeros (m + 1) ++ hexD j u).length = 65 := by rw [List.length_append, zeros_len, hexD_len]; omega
    obtain ⟨c0, hc⟩ : ∃ c : Int, wr.cell? ⟨g, m, none⟩ = some (.int .u8 c) := ⟨_, HB.out.cell (j := m) (by omega)⟩
    have hf := blk_free HB.out m
    clear hn hq hlen
    have hst : ∀ b : UInt8, b = hexC (q % 16) → Hid (Bts (wr.setCell ⟨g, m, none⟩ (.int .u8 b.toNat)) g 77 (zeros m ++ hexD (j + 1) u)) := by
      intro b hb
      have := bts_set HB.out m b
      rw [zeros_set, hb, HQ.out, ← hexD_cons, ← HQ.out, ← hb] at this
      exact Lib.hid this
    have HST := Lib.hid hst
    clear hst
    by_cases hlt : 16 ≤ q
    · have ha := and15 q (by omega)
      go_wp2
      refine ⟨⟨j + 1, m, by omega, ?_, ?_, rfl, ?_, ?_, ?_⟩, ?_⟩
      · rcases Nat.lt_or_ge j 15 with h | h
        · omega
        · have h15 : j = 15 := by omega
          subst h15
          have : q < 16 := by rw [HQ.out]; omega
          omega
      · rw [Nat.pow_succ, ← Nat.div_div_eq_div_mul, ← HQ.out]
        go_num
      · rw [HN.out, Nat.pow_succ, ← Nat.div_div_eq_div_mul, ← HQ.out, hexN, if_neg (by omega)]
        omega
      · exact HST.out _ (digs_at _ (by omega) _)
      · exact bset hb (by show w.heap.size ≤ g; exact hg) _
      · simp [intOf]; omega
    · have hn1 : hexN q = 1 := by unfold hexN; rw [if_pos (by omega)]
      have HF : hexD (j + 1) u = hexF u := by unfold hexF; rw [HN.out, hn1, Nat.add_comm]
      have HFF := Lib.hid HF
      have hlt2 : q < 16 := by omega
      have hqm : q = q % 16 := by omega
      have HQM := Lib.hid hqm
      have hsl : ∀ W : World, (Instr.sliceAt 77 (.pointer (some ⟨g, 0, none⟩)) (some (.int .i64 (m : Int))) none none).run Tryd.prog W = .ok (.slice (some ⟨g, m, none⟩) (65 - m) (65 - m)) W := by
        intro W
        have hr := run_sliceAt_array_l (P := Tryd.prog) W 77 ⟨g, 0, none⟩ (by kernel_rfl) .i64 (m : Int) (by omega) (by show (m : Int) ≤ ((65 : Nat) : Int); omega)
        rw [hr]
        have hs : (Go.sizeOf (Tryd.prog.elem 77)).run Tryd.prog W = .ok 1 W := by kernel_rfl
        rw [hs, Result.andThen_ok, show Tryd.prog.arrayLen 77 = 65 by kernel_rfl]
        unfold slicedAt
        rw [if_neg (by omega), add_plain0, Int.toNat_natCast, Nat.mul_one]
      have hcv : ∀ W : World, Hid (Bts W g 77 (zeros m ++ hexD (j + 1) u)) → (convert 27 9 (.slice (some ⟨g, m, none⟩) (65 - m) (65 - m))).run Tryd.prog W = .ok (.string ⟨(hexF u).toArray⟩) W := by
        intro W h
        have hl : (zeros m ++ hexD (j + 1) u).length = 65 := by rw [List.length_append, zeros_len, hexD_len]; omega
        have := run_text (P := Tryd.prog) Tryd.underlying27 Tryd.underlying5 Tryd.underlying9 h.out m (65 - m) (65 - m) (by omega)
        rw [this, List.drop_left' (zeros_len m), List.take_of_length_le (by rw [hexD_len]; omega), HF]
      have HCV := Lib.hid hcv
      have hwb := fun b => HST.out b
      obtain ⟨b, hb2⟩ : ∃ b : UInt8, b = hexC (q % 16) := ⟨_, rfl⟩
      have hcv2 := HCV.out _ (HST.out b hb2)
      have hdg : ∀ h, (ByteArray.mk #[48, 49, 50, 51, 52, 53, 54, 55, 56, 57, 97, 98, 99, 100, 101, 102, 103, 104, 105, 106, 107, 108, 109, 110, 111, 112, 113, 114, 115, 116, 117, 118, 119, 120, 121, 122])[q]'h = b := fun h => by rw [digs_at q hlt2 h, hb2, ← hqm]
      clear HCV hcv hn1 HF hqm hwb hb2
      go_wp2
      go_ret2
      exact ⟨rfl, bset hb (by show w.heap.size ≤ g; exact hg) _⟩
theorem fui_any (u : Nat) (w : World) (hu : u < 18446744073709551616) (hT : Lib.TabIs Tryd.prog w "math/bits.deBruijn64tab" .u8 Go.Proofs.YtndgollcganhmaaDoorQ.tab_math_bits_deBruijn64tab) :
    Calls Tryd.prog 19 #[.int .u64 u, .int .i64 16] w fun e w' => e = .returned (.string ⟨(hexF u).toArray⟩) ∧ Below w.heap.size w w' := by
  have HF := Lib.hid (fbits_any u w hu hT)
  clear hT
  go_enter Tryd.func19, Tryd.ntmps19
  go_wp2_with (go_at_call 33; refine HF.out.mono ?_; rintro e w' ⟨rfl, hb⟩)
  go_ret
  exact ⟨rfl, hb⟩
theorem fu_any (u : Nat) (w : World) (hu : u < 18446744073709551616) (hT : Lib.TabIs Tryd.prog w "math/bits.deBruijn64tab" .u8 Go.Proofs.YtndgollcganhmaaDoorQ.tab_math_bits_deBruijn64tab) :
    Calls Tryd.prog 15 #[.int .u64 u, .int .i64 16] w fun e w' => e = .returned (.string ⟨(hexF u).toArray⟩) ∧ Below w.heap.size w w' := by
  have HF := Lib.hid (fui_any u w hu hT)
  clear hT
  go_enter Tryd.func15, Tryd.ntmps15
  go_wp2_with (go_at_call 19; refine HF.out.mono ?_; rintro e w' ⟨rfl, hb⟩)
  go_ret
  exact ⟨rfl, hb⟩
theorem repeat_48 (n : Nat) : Lib.repeatL [48] n = List.replicate n 48 := by
  induction n with
  | zero => rfl
  | succ n ih => rw [Lib.repeatL, ih, List.replicate_succ]; rfl
def hexT (u : Nat) : ByteArray := ⟨(hexD 16 u).toArray⟩
theorem hexN_16 {u : Nat} (hu : u < 18446744073709551616) : hexN u ≤ 16 := hexN_le 15 u (by rw [show (16 : Nat) ^ (15 + 1) = 18446744073709551616 by decide +kernel]; exact hu)
theorem hexT_pad (u : Nat) (hu : u < 18446744073709551616) : (⟨(Lib.repeatL [48] (16 - hexN u)).toArray⟩ : ByteArray) ++ ⟨(hexF u).toArray⟩ = hexT u := by
  unfold hexT
  rw [← hexF_pad 16 u (hexN_16 hu), repeat_48]
  apply ByteArray.ext
  simp [ByteArray.data_append]
theorem hex_any (u : Nat) (w : World) (hu : u < 18446744073709551616) (hT : Lib.TabIs Tryd.prog w "math/bits.deBruijn64tab" .u8 Go.Proofs.YtndgollcganhmaaDoorQ.tab_math_bits_deBruijn64tab) :
    Calls Tryd.prog 7 #[.int .u64 u] w fun e w' => e = .returned (.string (hexT u)) ∧ Below w.heap.size w w' := by
  have HF := Lib.hid (fu_any u w hu hT)
  have hn := hexN_16 hu
  have hp := hexT_pad u hu
  obtain ⟨F, hFe⟩ : ∃ F : ByteArray, F = ⟨(hexF u).toArray⟩ := ⟨_, rfl⟩
  have hsz : F.size = hexN u := by rw [hFe, ← len_data]; simp [hexF, hexD_len]
  obtain ⟨R, hR⟩ : ∃ R : ByteArray, R = ⟨(Lib.repeatL [48] (16 - hexN u)).toArray⟩ := ⟨_, rfl⟩
  have HREP := Lib.hid fun W => Tryd.strings_Repeat ⟨#[48]⟩ (16 - hexN u) W (by omega) (by show 1 * (16 - hexN u) ≤ _; omega)
  rw [show (⟨#[48]⟩ : ByteArray).data.toList = [48] from rfl, ← hR] at HREP
  rw [← hFe] at HF hp
  rw [← hR] at hp
  obtain ⟨H, hH⟩ : ∃ H, H = hexT u := ⟨_, rfl⟩
  rw [← hH] at hp ⊢
  have hrs : R.size = 16 - hexN u := by rw [hR, repeat_48, ← len_data]; simp
  have hc : (16 : Int) - (F.size : Int) = ((16 - hexN u : Nat) : Int) := by omega
  have hlim : R.size + F.size ≤ 9223372036854775807 := by omega
  have HP := Lib.hid hp
  have HC := Lib.hid hc
  clear hT hp hFe hR hrs hc hsz hH
  go_enter Tryd.func7, Tryd.ntmps7
  go_wp2_with (go_at_call 15; refine HF.out.mono ?_; rintro e w1 ⟨rfl, hb⟩)
  rw [HC.out]
  refine (HREP.out _).mono ?_
  rintro e w2 ⟨rfl, hb2⟩
  clear HREP HF HC
  go_wp2_with fail
  go_ret
  exact ⟨ret_str HP.out, bel hb hb2⟩
end Go.Proofs.YtndgollcganhmaaDoor
/- The contracts of finger's functions, in the printer's form. -/
namespace Go.Proofs.YtndgollcganhmaaDoorQ.P
open Go.RowKit Go.Proofs.YtndgollcganhmaaDoorW.PrintWords Go.Proofs.YtndgollcganhmaaDoor
theorem if_some2 {α : Type} {p : Prop} [Decidable p] {x y : α} (h : (if p then some x else none) = some y) : p ∧ x = y := by
  split at h
  · exact ⟨‹_›, Option.some.inj h⟩
  · cases h
def finger_More.f (a0 : Int) (a1 : ByteArray) : Option (Int) := if 0 ≤ a0 ∧ a0 < 18446744073709551616 ∧ a1.size ≤ maxLen then some (fnvL a0 a1.data.toList) else none
theorem finger_More.calls (a0 : Int) (a1 : ByteArray) (r : Int) (w : World) (h : finger_More.f a0 a1 = some r) :
    Calls Tryd.prog 6 #[.int .u64 a0, .string a1] w fun e w' => e = .returned (.int .u64 r) ∧ Below w.heap.size w w' := by
  obtain ⟨h1, rfl⟩ := if_some2 h
  exact fmore_any a0 a1 w h1.2.2 h1.1 h1.2.1
def finger_Hex.f (a0 : Int) : Option (ByteArray) := if 0 ≤ a0 ∧ a0 < 18446744073709551616 then some (hexT a0.toNat) else none
theorem finger_Hex.calls (a0 : Int) (r : ByteArray) (w : World) (hG : GOK w) (h : finger_Hex.f a0 = some r) :
    Calls Tryd.prog 7 #[.int .u64 a0] w fun e w' => e = .returned (.string r) ∧ Below w.heap.size w w' := by
  obtain ⟨h1, rfl⟩ := if_some2 h
  obtain ⟨n, rfl⟩ : ∃ n : Nat, a0 = n := ⟨a0.toNat, by omega⟩
  have := hex_any n w (by omega) (gok_tab_math_bits_deBruijn64tab hG)
  rwa [Int.toNat_natCast]
end Go.Proofs.YtndgollcganhmaaDoorQ.P
/- Printed by the kit's printer, with my stubs, for this claim. -/
namespace Go.Proofs.YtndgollcganhmaaDoorQ.P
open Go.RowKit Go.Proofs.YtndgollcganhmaaDoorW.PrintWords Go.Proofs.YtndgollcganhmaaDoorW.PrintLast Go.Proofs.YtndgollcganhmaaDoorW.PrintMore
attribute [local go_sem] max2_int min2_int max_two min_two max_three min_three max_four min_four   -- for this text's walks alone

/-! ### foghornlaw11_few: function 5 -/
def foghornlaw11_few.f (a0 : ByteArray) : Option (ByteArray) := if 0 ≤ (mn (a0.size : Int) 300) then (if (mn (a0.size : Int) 300) ≤ (a0.size : Int) then (some (a0.extract 0 ((mn (a0.size : Int) 300) : Int).toNat)) else (none)) else (none)
set_option maxHeartbeats 8000000 in
set_option maxRecDepth 100000 in
theorem foghornlaw11_few.calls (a0 : ByteArray) (r : ByteArray) (w : World) (h : foghornlaw11_few.f a0 = some r) :
    Calls Tryd.prog 5 #[.string a0] w fun e w' => e = .returned (.string r) ∧ Below w.heap.size w w' := by
  have HB := Aside0.mk (Below.refl w.heap.size w)
  have H : (if 0 ≤ (mn (a0.size : Int) 300) then (if (mn (a0.size : Int) 300) ≤ (a0.size : Int) then (some (a0.extract 0 ((mn (a0.size : Int) 300) : Int).toNat)) else (none)) else (none)) = some r := h
  clear h
  obtain ⟨ji2, hji2⟩ : ∃ j_ : Int, (mn (a0.size : Int) 300) = j_ := ⟨_, rfl⟩
  replace H : (if 0 ≤ (ji2) then (if (ji2) ≤ (a0.size : Int) then (some (a0.extract 0 ((ji2) : Int).toNat)) else (none)) else (none)) = some r := by first | (rw [hji2] at H; exact H) | (simp only [hji2] at H ⊢; exact H)
  (try (have hji2h : ji2 ≤ 300 := by (rw [← hji2]; unfold mn; (repeat' split) <;> omega)))
  (try (have hji2g : ji2 ≤ 64 := by omega))
  (try (have hji2l : 0 ≤ ji2 := by (rw [← hji2]; unfold mn; (repeat' split) <;> omega)))
  (try (have hji2m : 0 ≤ ji2 := by omega))
  have hji2_ : (if 300 < (a0.size : Int) then 300 else (a0.size : Int)) = ji2 := hji2
  by_cases c3 : 0 ≤ (ji2)
  · rw [if_pos c3] at H
    have c3b0 := eq_true c3
    have c3b1 : decide (0 ≤ (ji2)) = true := decide_eq_true c3
    clear c3
    by_cases c4 : (ji2) ≤ (a0.size : Int)
    · rw [if_pos c4] at H
      have c4b0 := eq_true c4
      have c4b1 : decide ((ji2) ≤ (a0.size : Int)) = true := decide_eq_true c4
      clear c4
      obtain rfl := Option.some.inj H
      go_enter Tryd.func5, Tryd.ntmps5
      go_wp2
      go_ret
      exact ⟨by first | rfl | (simp [errW_none, errW_some] <;> rfl) | (simp only [← hji2]; first | rfl | (simp [errW_none, errW_some] <;> rfl)) | (simp [*, errW_none, errW_some] <;> rfl), by repeat (first | (with_reducible first | exact HB.out | apply below_alloc | apply pw_below_drewN | apply below_drew1) | exact HB.out)⟩
    · rw [if_neg c4] at H
      exact absurd H (by simp)
  · rw [if_neg c3] at H
    exact absurd H (by simp)


-- by hand: finger_More


-- by hand: finger_Hex

/-! ### foghornlaw11_alive: function 8 -/
def foghornlaw11_alive.f  : Option (Bool) := (finger_More.f 14695981039346656037 (⟨#[97]⟩ : ByteArray)).bind fun t101 => ((finger_Hex.f t101).bind fun t102 => (some (t102.toList == ([97, 102, 54, 51, 100, 99, 52, 99, 56, 54, 48, 49, 101, 99, 56, 99] : List UInt8))))
set_option maxHeartbeats 8000000 in
set_option maxRecDepth 100000 in
theorem foghornlaw11_alive.calls  (r : Bool) (w : World) (hG : GOK w) (h : foghornlaw11_alive.f  = some r) :
    Calls Tryd.prog 8 #[] w fun e w' => e = .returned (.bool r) ∧ Below w.heap.size w w' := by
  have HG := Aside0.mk hG
  clear hG
  have HB := Aside0.mk (Below.refl w.heap.size w)
  have H : ((finger_More.f 14695981039346656037 (⟨#[97]⟩ : ByteArray)).bind fun t101 => ((finger_Hex.f t101).bind fun t102 => (some (t102.toList == ([97, 102, 54, 51, 100, 99, 52, 99, 56, 54, 48, 49, 101, 99, 56, 99] : List UInt8))))) = some r := h
  clear h
  replace H := Option.bind_eq_some_iff.mp H
  obtain ⟨t101, A10, H⟩ := H
  replace H : ((finger_Hex.f t101).bind fun t102 => (some (t102.toList == ([97, 102, 54, 51, 100, 99, 52, 99, 56, 54, 48, 49, 101, 99, 56, 99] : List UInt8)))) = some r := H
  have A1 := Aside0.mk A10
  clear A10
  replace H := Option.bind_eq_some_iff.mp H
  obtain ⟨t102, A20, H⟩ := H
  replace H : (some (t102.toList == ([97, 102, 54, 51, 100, 99, 52, 99, 56, 54, 48, 49, 101, 99, 56, 99] : List UInt8))) = some r := H
  have A2 := Aside0.mk A20
  clear A20
  obtain rfl := Option.some.inj H
  go_enter Tryd.func8, Tryd.ntmps8
  go_wp2_with (first | ((with_reducible refine gate_callee (f := 6) rfl ?_); refine goesL_ (some 1) rfl rfl Tryd.func6 (by kernel_rfl) rfl #[.int .u64 14695981039346656037, .string (⟨#[97]⟩ : ByteArray)] rfl (by (try simp only [List.map_toArray, List.map_cons, List.map_nil]); first | done | rfl | (simp only [List.length_drop, List.length_take]; rfl)) ?_; (with_reducible refine (finger_More.calls 14695981039346656037 (⟨#[97]⟩ : ByteArray) t101 _ A1.out).mono ?_); rintro e w3 ⟨rfl, hb⟩; refine ⟨_, rfl, ?_⟩; have n0_ := Aside0.mk (below_step (by repeat (first | (with_reducible first | exact HB.out | apply below_alloc | apply pw_below_drewN | apply below_drew1) | exact HB.out)) hb); clear HB; have HB := n0_; clear n0_; (try clear hb); (try clear hb2); (try clear hk); (try clear hi)) | ((with_reducible refine gate_callee (f := 7) rfl ?_); refine goesL_ (some 2) rfl rfl Tryd.func7 (by kernel_rfl) rfl #[.int .u64 t101] rfl (by (try simp only [List.map_toArray, List.map_cons, List.map_nil]); first | done | rfl | (simp only [List.length_drop, List.length_take]; rfl)) ?_; (with_reducible refine (finger_Hex.calls t101 t102 _ ?side1 A2.out).mono ?_); (case side1 => exact gok_below HG.out (by repeat (first | (with_reducible first | exact HB.out | apply below_alloc | apply pw_below_drewN | apply below_drew1) | exact HB.out))); rintro e w4 ⟨rfl, hb⟩; refine ⟨_, rfl, ?_⟩; have n0_ := Aside0.mk (below_step (by repeat (first | (with_reducible first | exact HB.out | apply below_alloc | apply pw_below_drewN | apply below_drew1) | exact HB.out)) hb); clear HB; have HB := n0_; clear n0_; (try clear hb); (try clear hb2); (try clear hk); (try clear hi)))
  go_ret
  exact ⟨by first | rfl | (simp [errW_none, errW_some] <;> rfl) | (simp [*, errW_none, errW_some] <;> rfl), by repeat (first | (with_reducible first | exact HB.out | apply below_alloc | apply pw_below_drewN | apply below_drew1) | exact HB.out)⟩

/-! ### foghornlaw11_FingerTurns: function 3 -/
def foghornlaw11_FingerTurns.j0 : Nat → Int → ByteArray → Int → Int → Bool → Option (Bool)
  | 0, _, _, _, _, _ => none
  | k + 1, x0, x2, x4, x5, x56 => if x56 = true then (some false) else (if x2.toList = ([] : List UInt8) then ((finger_More.f x0 x2).bind fun t113 => (some (t113 == x0))) else (if (x2.size : Int) = 0 then (none) else (if 0 ≤ (Int.tmod (wrap64 ((Int.tmod x4 (x2.size : Int)) + (x2.size : Int))) (x2.size : Int)) then (if (Int.tmod (wrap64 ((Int.tmod x4 (x2.size : Int)) + (x2.size : Int))) (x2.size : Int)) ≤ (x2.size : Int) then (if (Int.tmod (wrap64 ((Int.tmod x4 (x2.size : Int)) + (x2.size : Int))) (x2.size : Int)) < (x2.size : Int) then ((some (([Go.bits .xor .u8 (bt x2 (Int.tmod (wrap64 ((Int.tmod x4 (x2.size : Int)) + (x2.size : Int))) (x2.size : Int))) x5] : List Int) : List Int)).bind fun y114 => (if (x2.extract 0 ((Int.tmod (wrap64 ((Int.tmod x4 (x2.size : Int)) + (x2.size : Int))) (x2.size : Int)) : Int).toNat).size + (strOfNums y114).size ≤ 9223372036854775807 then (if 0 ≤ (wrap64 ((Int.tmod (wrap64 ((Int.tmod x4 (x2.size : Int)) + (x2.size : Int))) (x2.size : Int)) + 1)) then (if (wrap64 ((Int.tmod (wrap64 ((Int.tmod x4 (x2.size : Int)) + (x2.size : Int))) (x2.size : Int)) + 1)) ≤ (x2.size : Int) then (if ((x2.extract 0 ((Int.tmod (wrap64 ((Int.tmod x4 (x2.size : Int)) + (x2.size : Int))) (x2.size : Int)) : Int).toNat) ++ (strOfNums y114)).size + (x2.extract ((wrap64 ((Int.tmod (wrap64 ((Int.tmod x4 (x2.size : Int)) + (x2.size : Int))) (x2.size : Int)) + 1)) : Int).toNat x2.size).size ≤ 9223372036854775807 then ((finger_More.f x0 (((x2.extract 0 ((Int.tmod (wrap64 ((Int.tmod x4 (x2.size : Int)) + (x2.size : Int))) (x2.size : Int)) : Int).toNat) ++ (strOfNums y114)) ++ (x2.extract ((wrap64 ((Int.tmod (wrap64 ((Int.tmod x4 (x2.size : Int)) + (x2.size : Int))) (x2.size : Int)) + 1)) : Int).toNat x2.size))).bind fun t117 => ((finger_More.f x0 x2).bind fun t118 => (some ((t117 == t118) == (x5 == 0))))) else (none)) else (none)) else (none)) else (none))) else (none)) else (none)) else (none))))
def foghornlaw11_FingerTurns.f (k : Nat) (a0 : Int) (a1 : Int) (a2 : ByteArray) (a3 : ByteArray) (a4 : Int) (a5 : Int) : Option (Bool) := (foghornlaw11_few.f a2).bind fun t103 => ((foghornlaw11_few.f a3).bind fun t104 => ((finger_More.f a0 t103).bind fun t105 => ((finger_More.f a1 t103).bind fun t106 => (if ((t105 == t106) != (a0 == a1)) = true then (foghornlaw11_FingerTurns.j0 k a0 t103 a4 a5 true) else ((finger_More.f a0 t103).bind fun t107 => ((finger_More.f t107 t104).bind fun t108 => (if t103.size + t104.size ≤ 9223372036854775807 then ((finger_More.f a0 (t103 ++ t104)).bind fun t109 => (if t108 = t109 then ((finger_Hex.f a0).bind fun t110 => ((finger_Hex.f a1).bind fun t111 => (if ((t110.toList == t111.toList) != (a0 == a1)) = true then (foghornlaw11_FingerTurns.j0 k a0 t103 a4 a5 true) else ((foghornlaw11_alive.f).bind fun t112 => (foghornlaw11_FingerTurns.j0 k a0 t103 a4 a5 (!t112)))))) else (foghornlaw11_FingerTurns.j0 k a0 t103 a4 a5 true))) else (none))))))))
theorem foghornlaw11_FingerTurns.mono_l : ∀ k, (∀ y0 y1 y2 y3 y4, LeO (foghornlaw11_FingerTurns.j0 k y0 y1 y2 y3 y4) (foghornlaw11_FingerTurns.j0 (k + 1) y0 y1 y2 y3 y4))
  | 0 => fun _ _ _ _ _ r h => by simp [foghornlaw11_FingerTurns.j0] at h
  | k + 1 => by
    have ih0 := foghornlaw11_FingerTurns.mono_l k
    · intro y0 y1 y2 y3 y4
      unfold foghornlaw11_FingerTurns.j0
      repeat' first
      | (with_reducible exact ih0 _ _ _ _ _)
      | (with_reducible exact LeO.refl _)
      | (with_reducible exact LeO.none _)
      | (with_reducible refine LeO.ite ?_ ?_)
      | (with_reducible refine LeO.bind ?_ (fun _ => ?_))
      | exact ih0 _ _ _ _ _
      | exact LeO.none _
      | refine LeO.ite ?_ ?_
      | refine LeO.bind ?_ (fun _ => ?_)
theorem foghornlaw11_FingerTurns.mono : ∀ a0 a1 a2 a3 a4 a5 k, LeO (foghornlaw11_FingerTurns.f k a0 a1 a2 a3 a4 a5) (foghornlaw11_FingerTurns.f (k + 1) a0 a1 a2 a3 a4 a5) := by
  intro a0 a1 a2 a3 a4 a5 k
  have ih0 := foghornlaw11_FingerTurns.mono_l k
  unfold foghornlaw11_FingerTurns.f
  repeat' first
      | (with_reducible exact ih0 _ _ _ _ _)
      | (with_reducible exact LeO.refl _)
      | (with_reducible exact LeO.none _)
      | (with_reducible refine LeO.ite ?_ ?_)
      | (with_reducible refine LeO.bind ?_ (fun _ => ?_))
      | exact ih0 _ _ _ _ _
      | exact LeO.none _
      | refine LeO.ite ?_ ?_
      | refine LeO.bind ?_ (fun _ => ?_)
def foghornlaw11_FingerTurns.T7 : Bool × List (List Nat × List Nat) := (true, [([], []), ([], []), ([0, 1], [0, 1]), ([], []), ([], []), ([3, 4], [3, 4]), ([], []), ([5, 6], [5, 6]), ([7], [7]), ([8], [8]), ([2, 9], [2, 9]), ([], []), ([], []), ([12], [12]), ([11, 13], [11, 13]), ([10, 14], [10, 14]), ([15, 0, 1, 2, 3, 4, 5, 6, 7, 8, 9, 10, 11, 12, 13, 14, 15], [15])])
def foghornlaw11_FingerTurns.B7 : List Nat := [0, 0, 3, 0, 0, 24, 0, 120, 248, 504, 1023, 0, 0, 4096, 14336, 32767, 65535]
theorem foghornlaw11_FingerTurns.tab7 : rtab .any (opsOf Tryd.f3 7) = foghornlaw11_FingerTurns.T7 := by kernel_rfl
theorem foghornlaw11_FingerTurns.bits7 : waitsOk foghornlaw11_FingerTurns.T7.2 foghornlaw11_FingerTurns.B7 = true := by kernel_rfl
set_option maxHeartbeats 8000000 in
set_option maxRecDepth 100000 in
theorem foghornlaw11_FingerTurns.calls (k : Nat) (a0 : Int) (a1 : Int) (a2 : ByteArray) (a3 : ByteArray) (a4 : Int) (a5 : Int) (r : Bool) (w : World) (hG : GOK w) (h : foghornlaw11_FingerTurns.f k a0 a1 a2 a3 a4 a5 = some r) :
    Calls Tryd.prog 3 #[.int .u64 a0, .int .u64 a1, .string a2, .string a3, .int .i64 a4, .int .u8 a5] w fun e w' => e = .returned (.bool r) ∧ Below w.heap.size w w' := by
  have HG := Aside0.mk hG
  clear hG
  have HB := Aside0.mk (Below.refl w.heap.size w)
  have H : ((foghornlaw11_few.f a2).bind fun t103 => ((foghornlaw11_few.f a3).bind fun t104 => ((finger_More.f a0 t103).bind fun t105 => ((finger_More.f a1 t103).bind fun t106 => (if ((t105 == t106) != (a0 == a1)) = true then (foghornlaw11_FingerTurns.j0 k a0 t103 a4 a5 true) else ((finger_More.f a0 t103).bind fun t107 => ((finger_More.f t107 t104).bind fun t108 => (if t103.size + t104.size ≤ 9223372036854775807 then ((finger_More.f a0 (t103 ++ t104)).bind fun t109 => (if t108 = t109 then ((finger_Hex.f a0).bind fun t110 => ((finger_Hex.f a1).bind fun t111 => (if ((t110.toList == t111.toList) != (a0 == a1)) = true then (foghornlaw11_FingerTurns.j0 k a0 t103 a4 a5 true) else ((foghornlaw11_alive.f).bind fun t112 => (foghornlaw11_FingerTurns.j0 k a0 t103 a4 a5 (!t112)))))) else (foghornlaw11_FingerTurns.j0 k a0 t103 a4 a5 true))) else (none))))))))) = some r := h
  clear h
  replace H := Option.bind_eq_some_iff.mp H
  obtain ⟨t103, A70, H⟩ := H
  replace H : ((foghornlaw11_few.f a3).bind fun t104 => ((finger_More.f a0 t103).bind fun t105 => ((finger_More.f a1 t103).bind fun t106 => (if ((t105 == t106) != (a0 == a1)) = true then (foghornlaw11_FingerTurns.j0 k a0 t103 a4 a5 true) else ((finger_More.f a0 t103).bind fun t107 => ((finger_More.f t107 t104).bind fun t108 => (if t103.size + t104.size ≤ 9223372036854775807 then ((finger_More.f a0 (t103 ++ t104)).bind fun t109 => (if t108 = t109 then ((finger_Hex.f a0).bind fun t110 => ((finger_Hex.f a1).bind fun t111 => (if ((t110.toList == t111.toList) != (a0 == a1)) = true then (foghornlaw11_FingerTurns.j0 k a0 t103 a4 a5 true) else ((foghornlaw11_alive.f).bind fun t112 => (foghornlaw11_FingerTurns.j0 k a0 t103 a4 a5 (!t112)))))) else (foghornlaw11_FingerTurns.j0 k a0 t103 a4 a5 true))) else (none)))))))) = some r := H
  have A7 := Aside0.mk A70
  clear A70
  replace H := Option.bind_eq_some_iff.mp H
  obtain ⟨t104, A80, H⟩ := H
  replace H : ((finger_More.f a0 t103).bind fun t105 => ((finger_More.f a1 t103).bind fun t106 => (if ((t105 == t106) != (a0 == a1)) = true then (foghornlaw11_FingerTurns.j0 k a0 t103 a4 a5 true) else ((finger_More.f a0 t103).bind fun t107 => ((finger_More.f t107 t104).bind fun t108 => (if t103.size + t104.size ≤ 9223372036854775807 then ((finger_More.f a0 (t103 ++ t104)).bind fun t109 => (if t108 = t109 then ((finger_Hex.f a0).bind fun t110 => ((finger_Hex.f a1).bind fun t111 => (if ((t110.toList == t111.toList) != (a0 == a1)) = true then (foghornlaw11_FingerTurns.j0 k a0 t103 a4 a5 true) else ((foghornlaw11_alive.f).bind fun t112 => (foghornlaw11_FingerTurns.j0 k a0 t103 a4 a5 (!t112)))))) else (foghornlaw11_FingerTurns.j0 k a0 t103 a4 a5 true))) else (none))))))) = some r := H
  have A8 := Aside0.mk A80
  clear A80
  have HC9 := Aside0.mk H
  clear H
  go_enter Tryd.func3, Tryd.ntmps3
  go_upto_region 2 with (first | ((with_reducible refine gate_callee (f := 5) rfl ?_); refine goesL_ (some 15) rfl rfl Tryd.func5 (by kernel_rfl) rfl #[.string a2] rfl (by (try simp only [List.map_toArray, List.map_cons, List.map_nil]); first | done | rfl | (simp only [List.length_drop, List.length_take]; rfl)) ?_; (with_reducible refine (foghornlaw11_few.calls a2 t103 _ A7.out).mono ?_); rintro e w10 ⟨rfl, hb⟩; refine ⟨_, rfl, ?_⟩; have n0_ := Aside0.mk (below_step (by repeat (first | (with_reducible first | exact HB.out | apply below_alloc | apply pw_below_drewN | apply below_drew1) | exact HB.out)) hb); clear HB; have HB := n0_; clear n0_; (try clear hb); (try clear hb2); (try clear hk); (try clear hi)) | ((with_reducible refine gate_callee (f := 5) rfl ?_); refine goesL_ (some 17) rfl rfl Tryd.func5 (by kernel_rfl) rfl #[.string a3] rfl (by (try simp only [List.map_toArray, List.map_cons, List.map_nil]); first | done | rfl | (simp only [List.length_drop, List.length_take]; rfl)) ?_; (with_reducible refine (foghornlaw11_few.calls a3 t104 _ A8.out).mono ?_); rintro e w11 ⟨rfl, hb⟩; refine ⟨_, rfl, ?_⟩; have n0_ := Aside0.mk (below_step (by repeat (first | (with_reducible first | exact HB.out | apply below_alloc | apply pw_below_drewN | apply below_drew1) | exact HB.out)) hb); clear HB; have HB := n0_; clear n0_; (try clear hb); (try clear hb2); (try clear hk); (try clear hi)))
  (try simp only [Act.put, List.setIfInBounds_toArray, List.set_cons_zero, List.set_cons_succ])
  go_cut [56] (fun v56 wc => ∃ (kq : Nat) (x56_8 : Bool), v56 = .bool x56_8 ∧ Aside0 (foghornlaw11_FingerTurns.j0 kq a0 t103 a4 a5 x56_8 = some r) ∧ Aside0 (kq ≤ k) ∧ Aside0 (Below w.heap.size w wc))
  case first =>
    have H := HC9.out
    clear HC9
    replace H := Option.bind_eq_some_iff.mp H
    obtain ⟨t105, A120, H⟩ := H
    replace H : ((finger_More.f a1 t103).bind fun t106 => (if ((t105 == t106) != (a0 == a1)) = true then (foghornlaw11_FingerTurns.j0 k a0 t103 a4 a5 true) else ((finger_More.f a0 t103).bind fun t107 => ((finger_More.f t107 t104).bind fun t108 => (if t103.size + t104.size ≤ 9223372036854775807 then ((finger_More.f a0 (t103 ++ t104)).bind fun t109 => (if t108 = t109 then ((finger_Hex.f a0).bind fun t110 => ((finger_Hex.f a1).bind fun t111 => (if ((t110.toList == t111.toList) != (a0 == a1)) = true then (foghornlaw11_FingerTurns.j0 k a0 t103 a4 a5 true) else ((foghornlaw11_alive.f).bind fun t112 => (foghornlaw11_FingerTurns.j0 k a0 t103 a4 a5 (!t112)))))) else (foghornlaw11_FingerTurns.j0 k a0 t103 a4 a5 true))) else (none)))))) = some r := H
    have A12 := Aside0.mk A120
    clear A120
    replace H := Option.bind_eq_some_iff.mp H
    obtain ⟨t106, A130, H⟩ := H
    replace H : (if ((t105 == t106) != (a0 == a1)) = true then (foghornlaw11_FingerTurns.j0 k a0 t103 a4 a5 true) else ((finger_More.f a0 t103).bind fun t107 => ((finger_More.f t107 t104).bind fun t108 => (if t103.size + t104.size ≤ 9223372036854775807 then ((finger_More.f a0 (t103 ++ t104)).bind fun t109 => (if t108 = t109 then ((finger_Hex.f a0).bind fun t110 => ((finger_Hex.f a1).bind fun t111 => (if ((t110.toList == t111.toList) != (a0 == a1)) = true then (foghornlaw11_FingerTurns.j0 k a0 t103 a4 a5 true) else ((foghornlaw11_alive.f).bind fun t112 => (foghornlaw11_FingerTurns.j0 k a0 t103 a4 a5 (!t112)))))) else (foghornlaw11_FingerTurns.j0 k a0 t103 a4 a5 true))) else (none))))) = some r := H
    have A13 := Aside0.mk A130
    clear A130
    by_cases c14 : ((t105 == t106) != (a0 == a1)) = true
    · rw [if_pos c14] at H
      have c14b0 : ((t105 == t106) != (a0 == a1)) = true := c14
      (try (have c14b1 : decide ((t105 == t106) = (a0 == a1)) = false := by simpa using c14))
      (try (have c14b2 : ((t105 == t106) == (a0 == a1)) = false := by simpa using c14))
      (try (have c14b3 : ¬ ((t105 == t106) = (a0 == a1)) := by simpa using c14))
      clear c14
      (first | rw [c14b0] | (simp only [i64_w, i32_w]; rw [c14b0]) | skip)
      have H' := Aside0.mk H
      clear H
      go_wp2_with (first | ((with_reducible refine gate_callee (f := 6) rfl ?_); refine goesL_ (some 20) rfl rfl Tryd.func6 (by kernel_rfl) rfl #[.int .u64 a0, .string t103] rfl (by (try simp only [List.map_toArray, List.map_cons, List.map_nil]); first | done | rfl | (simp only [List.length_drop, List.length_take]; rfl)) ?_; (with_reducible refine (finger_More.calls a0 t103 t105 _ A12.out).mono ?_); rintro e w15 ⟨rfl, hb⟩; refine ⟨_, rfl, ?_⟩; have n0_ := Aside0.mk (below_step (by repeat (first | (with_reducible first | exact HB.out | apply below_alloc | apply pw_below_drewN | apply below_drew1) | exact HB.out)) hb); clear HB; have HB := n0_; clear n0_; (try clear hb); (try clear hb2); (try clear hk); (try clear hi)) | ((with_reducible refine gate_callee (f := 6) rfl ?_); refine goesL_ (some 23) rfl rfl Tryd.func6 (by kernel_rfl) rfl #[.int .u64 a1, .string t103] rfl (by (try simp only [List.map_toArray, List.map_cons, List.map_nil]); first | done | rfl | (simp only [List.length_drop, List.length_take]; rfl)) ?_; (with_reducible refine (finger_More.calls a1 t103 t106 _ A13.out).mono ?_); rintro e w16 ⟨rfl, hb⟩; refine ⟨_, rfl, ?_⟩; have n0_ := Aside0.mk (below_step (by repeat (first | (with_reducible first | exact HB.out | apply below_alloc | apply pw_below_drewN | apply below_drew1) | exact HB.out)) hb); clear HB; have HB := n0_; clear n0_; (try clear hb); (try clear hb2); (try clear hk); (try clear hi)))
      go_meet
      case rel => exact ⟨_, (true), (by first | rfl | (simp; done) | (simp [*]; done)), H', ⟨by first | omega | exact Nat.le_refl _⟩, ⟨by repeat (first | (with_reducible first | exact HB.out | apply below_alloc | apply pw_below_drewN | apply below_drew1) | exact HB.out)⟩⟩
    · rw [if_neg c14] at H
      have c14b0 : ((t105 == t106) != (a0 == a1)) = false := by simpa using c14
      (try (have c14b1 : decide ((t105 == t106) = (a0 == a1)) = true := by simpa using c14))
      (try (have c14b2 : ((t105 == t106) == (a0 == a1)) = true := by simpa using c14))
      clear c14
      (first | rw [c14b0] | (simp only [i64_w, i32_w]; rw [c14b0]) | skip)
      replace H := Option.bind_eq_some_iff.mp H
      obtain ⟨t107, A170, H⟩ := H
      replace H : ((finger_More.f t107 t104).bind fun t108 => (if t103.size + t104.size ≤ 9223372036854775807 then ((finger_More.f a0 (t103 ++ t104)).bind fun t109 => (if t108 = t109 then ((finger_Hex.f a0).bind fun t110 => ((finger_Hex.f a1).bind fun t111 => (if ((t110.toList == t111.toList) != (a0 == a1)) = true then (foghornlaw11_FingerTurns.j0 k a0 t103 a4 a5 true) else ((foghornlaw11_alive.f).bind fun t112 => (foghornlaw11_FingerTurns.j0 k a0 t103 a4 a5 (!t112)))))) else (foghornlaw11_FingerTurns.j0 k a0 t103 a4 a5 true))) else (none))) = some r := H
      have A17 := Aside0.mk A170
      clear A170
      replace H := Option.bind_eq_some_iff.mp H
      obtain ⟨t108, A180, H⟩ := H
      replace H : (if t103.size + t104.size ≤ 9223372036854775807 then ((finger_More.f a0 (t103 ++ t104)).bind fun t109 => (if t108 = t109 then ((finger_Hex.f a0).bind fun t110 => ((finger_Hex.f a1).bind fun t111 => (if ((t110.toList == t111.toList) != (a0 == a1)) = true then (foghornlaw11_FingerTurns.j0 k a0 t103 a4 a5 true) else ((foghornlaw11_alive.f).bind fun t112 => (foghornlaw11_FingerTurns.j0 k a0 t103 a4 a5 (!t112)))))) else (foghornlaw11_FingerTurns.j0 k a0 t103 a4 a5 true))) else (none)) = some r := H
      have A18 := Aside0.mk A180
      clear A180
      by_cases c19 : t103.size + t104.size ≤ 9223372036854775807
      · rw [if_pos c19] at H
        have c19b0 := eq_true c19
        have c19b1 : decide (t103.size + t104.size ≤ 9223372036854775807) = true := decide_eq_true c19
        try have c19b2 : (9223372036854775807 < t103.size + t104.size) = False := eq_false (Nat.not_lt.2 c19)
        replace H := Option.bind_eq_some_iff.mp H
        obtain ⟨t109, A200, H⟩ := H
        replace H : (if t108 = t109 then ((finger_Hex.f a0).bind fun t110 => ((finger_Hex.f a1).bind fun t111 => (if ((t110.toList == t111.toList) != (a0 == a1)) = true then (foghornlaw11_FingerTurns.j0 k a0 t103 a4 a5 true) else ((foghornlaw11_alive.f).bind fun t112 => (foghornlaw11_FingerTurns.j0 k a0 t103 a4 a5 (!t112)))))) else (foghornlaw11_FingerTurns.j0 k a0 t103 a4 a5 true)) = some r := H
        have A20 := Aside0.mk A200
        clear A200
        by_cases c21 : t108 = t109
        · rw [if_pos c21] at H
          have c21b0 : (t108 == t109) = true := beq_iff_eq.mpr c21
          have c21b1 : (t108 != t109) = false := bne_eq_false_iff_eq.mpr c21
          clear c21
          replace H := Option.bind_eq_some_iff.mp H
          obtain ⟨t110, A220, H⟩ := H
          replace H : ((finger_Hex.f a1).bind fun t111 => (if ((t110.toList == t111.toList) != (a0 == a1)) = true then (foghornlaw11_FingerTurns.j0 k a0 t103 a4 a5 true) else ((foghornlaw11_alive.f).bind fun t112 => (foghornlaw11_FingerTurns.j0 k a0 t103 a4 a5 (!t112))))) = some r := H
          have A22 := Aside0.mk A220
          clear A220
          replace H := Option.bind_eq_some_iff.mp H
          obtain ⟨t111, A230, H⟩ := H
          replace H : (if ((t110.toList == t111.toList) != (a0 == a1)) = true then (foghornlaw11_FingerTurns.j0 k a0 t103 a4 a5 true) else ((foghornlaw11_alive.f).bind fun t112 => (foghornlaw11_FingerTurns.j0 k a0 t103 a4 a5 (!t112)))) = some r := H
          have A23 := Aside0.mk A230
          clear A230
          by_cases c24 : ((t110.toList == t111.toList) != (a0 == a1)) = true
          · rw [if_pos c24] at H
            have c24b0 : ((t110.toList == t111.toList) != (a0 == a1)) = true := c24
            (try (have c24b1 : decide ((t110.toList == t111.toList) = (a0 == a1)) = false := by simpa using c24))
            (try (have c24b2 : ((t110.toList == t111.toList) == (a0 == a1)) = false := by simpa using c24))
            (try (have c24b3 : ¬ ((t110.toList == t111.toList) = (a0 == a1)) := by simpa using c24))
            clear c24
            have H' := Aside0.mk H
            clear H
            go_wp2_with (first | ((with_reducible refine gate_callee (f := 6) rfl ?_); refine goesL_ (some 20) rfl rfl Tryd.func6 (by kernel_rfl) rfl #[.int .u64 a0, .string t103] rfl (by (try simp only [List.map_toArray, List.map_cons, List.map_nil]); first | done | rfl | (simp only [List.length_drop, List.length_take]; rfl)) ?_; (with_reducible refine (finger_More.calls a0 t103 t105 _ A12.out).mono ?_); rintro e w25 ⟨rfl, hb⟩; refine ⟨_, rfl, ?_⟩; have n0_ := Aside0.mk (below_step (by repeat (first | (with_reducible first | exact HB.out | apply below_alloc | apply pw_below_drewN | apply below_drew1) | exact HB.out)) hb); clear HB; have HB := n0_; clear n0_; (try clear hb); (try clear hb2); (try clear hk); (try clear hi)) | ((with_reducible refine gate_callee (f := 6) rfl ?_); refine goesL_ (some 23) rfl rfl Tryd.func6 (by kernel_rfl) rfl #[.int .u64 a1, .string t103] rfl (by (try simp only [List.map_toArray, List.map_cons, List.map_nil]); first | done | rfl | (simp only [List.length_drop, List.length_take]; rfl)) ?_; (with_reducible refine (finger_More.calls a1 t103 t106 _ A13.out).mono ?_); rintro e w26 ⟨rfl, hb⟩; refine ⟨_, rfl, ?_⟩; have n0_ := Aside0.mk (below_step (by repeat (first | (with_reducible first | exact HB.out | apply below_alloc | apply pw_below_drewN | apply below_drew1) | exact HB.out)) hb); clear HB; have HB := n0_; clear n0_; (try clear hb); (try clear hb2); (try clear hk); (try clear hi)) | (go_at_call 6; (with_reducible refine (finger_More.calls a0 t103 t107 _ A17.out).mono ?_); rintro e w27 ⟨rfl, hb⟩; have n0_ := Aside0.mk (below_step (by repeat (first | (with_reducible first | exact HB.out | apply below_alloc | apply pw_below_drewN | apply below_drew1) | exact HB.out)) hb); clear HB; have HB := n0_; clear n0_; (try clear hb); (try clear hb2); (try clear hk); (try clear hi)) | (go_at_call 6; (with_reducible refine (finger_More.calls t107 t104 t108 _ A18.out).mono ?_); rintro e w28 ⟨rfl, hb⟩; have n0_ := Aside0.mk (below_step (by repeat (first | (with_reducible first | exact HB.out | apply below_alloc | apply pw_below_drewN | apply below_drew1) | exact HB.out)) hb); clear HB; have HB := n0_; clear n0_; (try clear hb); (try clear hb2); (try clear hk); (try clear hi)) | (go_at_call 6; (with_reducible refine (finger_More.calls a0 (t103 ++ t104) t109 _ A20.out).mono ?_); rintro e w29 ⟨rfl, hb⟩; have n0_ := Aside0.mk (below_step (by repeat (first | (with_reducible first | exact HB.out | apply below_alloc | apply pw_below_drewN | apply below_drew1) | exact HB.out)) hb); clear HB; have HB := n0_; clear n0_; (try clear hb); (try clear hb2); (try clear hk); (try clear hi)) | (go_at_call 7; (with_reducible refine (finger_Hex.calls a0 t110 _ ?side1 A22.out).mono ?_); (case side1 => exact gok_below HG.out (by repeat (first | (with_reducible first | exact HB.out | apply below_alloc | apply pw_below_drewN | apply below_drew1) | exact HB.out))); rintro e w30 ⟨rfl, hb⟩; have n0_ := Aside0.mk (below_step (by repeat (first | (with_reducible first | exact HB.out | apply below_alloc | apply pw_below_drewN | apply below_drew1) | exact HB.out)) hb); clear HB; have HB := n0_; clear n0_; (try clear hb); (try clear hb2); (try clear hk); (try clear hi)) | (go_at_call 7; (with_reducible refine (finger_Hex.calls a1 t111 _ ?side1 A23.out).mono ?_); (case side1 => exact gok_below HG.out (by repeat (first | (with_reducible first | exact HB.out | apply below_alloc | apply pw_below_drewN | apply below_drew1) | exact HB.out))); rintro e w31 ⟨rfl, hb⟩; have n0_ := Aside0.mk (below_step (by repeat (first | (with_reducible first | exact HB.out | apply below_alloc | apply pw_below_drewN | apply below_drew1) | exact HB.out)) hb); clear HB; have HB := n0_; clear n0_; (try clear hb); (try clear hb2); (try clear hk); (try clear hi)))
            go_meet
            case rel => exact ⟨_, (true), (by first | rfl | (simp; done) | (simp [*]; done)), H', ⟨by first | omega | exact Nat.le_refl _⟩, ⟨by repeat (first | (with_reducible first | exact HB.out | apply below_alloc | apply pw_below_drewN | apply below_drew1) | exact HB.out)⟩⟩
          · rw [if_neg c24] at H
            have c24b0 : ((t110.toList == t111.toList) != (a0 == a1)) = false := by simpa using c24
            (try (have c24b1 : decide ((t110.toList == t111.toList) = (a0 == a1)) = true := by simpa using c24))
            (try (have c24b2 : ((t110.toList == t111.toList) == (a0 == a1)) = true := by simpa using c24))
            clear c24
            replace H := Option.bind_eq_some_iff.mp H
            obtain ⟨t112, A320, H⟩ := H
            replace H : (foghornlaw11_FingerTurns.j0 k a0 t103 a4 a5 (!t112)) = some r := H
            have A32 := Aside0.mk A320
            clear A320
            have H' := Aside0.mk H
            clear H
            go_wp2_with (first | ((with_reducible refine gate_callee (f := 6) rfl ?_); refine goesL_ (some 20) rfl rfl Tryd.func6 (by kernel_rfl) rfl #[.int .u64 a0, .string t103] rfl (by (try simp only [List.map_toArray, List.map_cons, List.map_nil]); first | done | rfl | (simp only [List.length_drop, List.length_take]; rfl)) ?_; (with_reducible refine (finger_More.calls a0 t103 t105 _ A12.out).mono ?_); rintro e w33 ⟨rfl, hb⟩; refine ⟨_, rfl, ?_⟩; have n0_ := Aside0.mk (below_step (by repeat (first | (with_reducible first | exact HB.out | apply below_alloc | apply pw_below_drewN | apply below_drew1) | exact HB.out)) hb); clear HB; have HB := n0_; clear n0_; (try clear hb); (try clear hb2); (try clear hk); (try clear hi)) | ((with_reducible refine gate_callee (f := 6) rfl ?_); refine goesL_ (some 23) rfl rfl Tryd.func6 (by kernel_rfl) rfl #[.int .u64 a1, .string t103] rfl (by (try simp only [List.map_toArray, List.map_cons, List.map_nil]); first | done | rfl | (simp only [List.length_drop, List.length_take]; rfl)) ?_; (with_reducible refine (finger_More.calls a1 t103 t106 _ A13.out).mono ?_); rintro e w34 ⟨rfl, hb⟩; refine ⟨_, rfl, ?_⟩; have n0_ := Aside0.mk (below_step (by repeat (first | (with_reducible first | exact HB.out | apply below_alloc | apply pw_below_drewN | apply below_drew1) | exact HB.out)) hb); clear HB; have HB := n0_; clear n0_; (try clear hb); (try clear hb2); (try clear hk); (try clear hi)) | (go_at_call 6; (with_reducible refine (finger_More.calls a0 t103 t107 _ A17.out).mono ?_); rintro e w35 ⟨rfl, hb⟩; have n0_ := Aside0.mk (below_step (by repeat (first | (with_reducible first | exact HB.out | apply below_alloc | apply pw_below_drewN | apply below_drew1) | exact HB.out)) hb); clear HB; have HB := n0_; clear n0_; (try clear hb); (try clear hb2); (try clear hk); (try clear hi)) | (go_at_call 6; (with_reducible refine (finger_More.calls t107 t104 t108 _ A18.out).mono ?_); rintro e w36 ⟨rfl, hb⟩; have n0_ := Aside0.mk (below_step (by repeat (first | (with_reducible first | exact HB.out | apply below_alloc | apply pw_below_drewN | apply below_drew1) | exact HB.out)) hb); clear HB; have HB := n0_; clear n0_; (try clear hb); (try clear hb2); (try clear hk); (try clear hi)) | (go_at_call 6; (with_reducible refine (finger_More.calls a0 (t103 ++ t104) t109 _ A20.out).mono ?_); rintro e w37 ⟨rfl, hb⟩; have n0_ := Aside0.mk (below_step (by repeat (first | (with_reducible first | exact HB.out | apply below_alloc | apply pw_below_drewN | apply below_drew1) | exact HB.out)) hb); clear HB; have HB := n0_; clear n0_; (try clear hb); (try clear hb2); (try clear hk); (try clear hi)) | (go_at_call 7; (with_reducible refine (finger_Hex.calls a0 t110 _ ?side1 A22.out).mono ?_); (case side1 => exact gok_below HG.out (by repeat (first | (with_reducible first | exact HB.out | apply below_alloc | apply pw_below_drewN | apply below_drew1) | exact HB.out))); rintro e w38 ⟨rfl, hb⟩; have n0_ := Aside0.mk (below_step (by repeat (first | (with_reducible first | exact HB.out | apply below_alloc | apply pw_below_drewN | apply below_drew1) | exact HB.out)) hb); clear HB; have HB := n0_; clear n0_; (try clear hb); (try clear hb2); (try clear hk); (try clear hi)) | (go_at_call 7; (with_reducible refine (finger_Hex.calls a1 t111 _ ?side1 A23.out).mono ?_); (case side1 => exact gok_below HG.out (by repeat (first | (with_reducible first | exact HB.out | apply below_alloc | apply pw_below_drewN | apply below_drew1) | exact HB.out))); rintro e w39 ⟨rfl, hb⟩; have n0_ := Aside0.mk (below_step (by repeat (first | (with_reducible first | exact HB.out | apply below_alloc | apply pw_below_drewN | apply below_drew1) | exact HB.out)) hb); clear HB; have HB := n0_; clear n0_; (try clear hb); (try clear hb2); (try clear hk); (try clear hi)) | (go_at_call 8; (with_reducible refine (foghornlaw11_alive.calls  t112 _ ?side1 A32.out).mono ?_); (case side1 => exact gok_below HG.out (by repeat (first | (with_reducible first | exact HB.out | apply below_alloc | apply pw_below_drewN | apply below_drew1) | exact HB.out))); rintro e w40 ⟨rfl, hb⟩; have n0_ := Aside0.mk (below_step (by repeat (first | (with_reducible first | exact HB.out | apply below_alloc | apply pw_below_drewN | apply below_drew1) | exact HB.out)) hb); clear HB; have HB := n0_; clear n0_; (try clear hb); (try clear hb2); (try clear hk); (try clear hi)))
            go_meet
            case rel => exact ⟨_, (!t112), (by first | rfl | (simp; done) | (simp [*]; done)), H', ⟨by first | omega | exact Nat.le_refl _⟩, ⟨by repeat (first | (with_reducible first | exact HB.out | apply below_alloc | apply pw_below_drewN | apply below_drew1) | exact HB.out)⟩⟩
        · rw [if_neg c21] at H
          have c21b0 : (t108 == t109) = false := beq_eq_false_iff_ne.mpr c21
          have c21b1 : (t108 != t109) = true := bne_iff_ne.mpr c21
          have H' := Aside0.mk H
          clear H
          go_wp2_with (first | ((with_reducible refine gate_callee (f := 6) rfl ?_); refine goesL_ (some 20) rfl rfl Tryd.func6 (by kernel_rfl) rfl #[.int .u64 a0, .string t103] rfl (by (try simp only [List.map_toArray, List.map_cons, List.map_nil]); first | done | rfl | (simp only [List.length_drop, List.length_take]; rfl)) ?_; (with_reducible refine (finger_More.calls a0 t103 t105 _ A12.out).mono ?_); rintro e w41 ⟨rfl, hb⟩; refine ⟨_, rfl, ?_⟩; have n0_ := Aside0.mk (below_step (by repeat (first | (with_reducible first | exact HB.out | apply below_alloc | apply pw_below_drewN | apply below_drew1) | exact HB.out)) hb); clear HB; have HB := n0_; clear n0_; (try clear hb); (try clear hb2); (try clear hk); (try clear hi)) | ((with_reducible refine gate_callee (f := 6) rfl ?_); refine goesL_ (some 23) rfl rfl Tryd.func6 (by kernel_rfl) rfl #[.int .u64 a1, .string t103] rfl (by (try simp only [List.map_toArray, List.map_cons, List.map_nil]); first | done | rfl | (simp only [List.length_drop, List.length_take]; rfl)) ?_; (with_reducible refine (finger_More.calls a1 t103 t106 _ A13.out).mono ?_); rintro e w42 ⟨rfl, hb⟩; refine ⟨_, rfl, ?_⟩; have n0_ := Aside0.mk (below_step (by repeat (first | (with_reducible first | exact HB.out | apply below_alloc | apply pw_below_drewN | apply below_drew1) | exact HB.out)) hb); clear HB; have HB := n0_; clear n0_; (try clear hb); (try clear hb2); (try clear hk); (try clear hi)) | (go_at_call 6; (with_reducible refine (finger_More.calls a0 t103 t107 _ A17.out).mono ?_); rintro e w43 ⟨rfl, hb⟩; have n0_ := Aside0.mk (below_step (by repeat (first | (with_reducible first | exact HB.out | apply below_alloc | apply pw_below_drewN | apply below_drew1) | exact HB.out)) hb); clear HB; have HB := n0_; clear n0_; (try clear hb); (try clear hb2); (try clear hk); (try clear hi)) | (go_at_call 6; (with_reducible refine (finger_More.calls t107 t104 t108 _ A18.out).mono ?_); rintro e w44 ⟨rfl, hb⟩; have n0_ := Aside0.mk (below_step (by repeat (first | (with_reducible first | exact HB.out | apply below_alloc | apply pw_below_drewN | apply below_drew1) | exact HB.out)) hb); clear HB; have HB := n0_; clear n0_; (try clear hb); (try clear hb2); (try clear hk); (try clear hi)) | (go_at_call 6; (with_reducible refine (finger_More.calls a0 (t103 ++ t104) t109 _ A20.out).mono ?_); rintro e w45 ⟨rfl, hb⟩; have n0_ := Aside0.mk (below_step (by repeat (first | (with_reducible first | exact HB.out | apply below_alloc | apply pw_below_drewN | apply below_drew1) | exact HB.out)) hb); clear HB; have HB := n0_; clear n0_; (try clear hb); (try clear hb2); (try clear hk); (try clear hi)))
          go_meet
          case rel => exact ⟨_, (true), (by first | rfl | (simp; done) | (simp [*]; done)), H', ⟨by first | omega | exact Nat.le_refl _⟩, ⟨by repeat (first | (with_reducible first | exact HB.out | apply below_alloc | apply pw_below_drewN | apply below_drew1) | exact HB.out)⟩⟩
      · rw [if_neg c19] at H
        exact absurd H (by simp)
  case rest =>
    clear HC9
    try clear c1
    try clear c2
    try clear p2
    try clear c3
    try clear c5
    try clear c6
    try clear c14
    try clear c14b0
    try clear c14b1
    try clear c14b2
    try clear c19
    try clear c19b0
    try clear c19b1
    try clear c19b2
    try clear c21
    try clear c21b0
    try clear c21b1
    try clear c24
    try clear c24b0
    try clear c24b1
    try clear c24b2
    obtain ⟨kq, x56_8, rfl, HA, HJ8, HB⟩ := hcut
    cases kq with
    | zero => exact absurd HA.out (by simp [foghornlaw11_FingerTurns.j0])
    | succ kj8 =>
      have H := HA.out
      clear HA
      simp only [foghornlaw11_FingerTurns.j0] at H
      by_cases c46 : x56_8 = true
      · subst c46
        have H1 : (some false) = some r := by rw [if_pos rfl] at H; exact H
        clear H
        have H := H1
        clear H1
        obtain rfl := Option.some.inj H
        go_wp2
        go_ret
        exact ⟨by first | rfl | (simp [errW_none, errW_some] <;> rfl) | (simp [*, errW_none, errW_some] <;> rfl), by repeat (first | (with_reducible first | exact HB.out | apply below_alloc | apply pw_below_drewN | apply below_drew1) | exact HB.out)⟩
      · replace c46 := Bool.eq_false_iff.mpr c46
        subst c46
        have H1 : (if t103.toList = ([] : List UInt8) then ((finger_More.f a0 t103).bind fun t113 => (some (t113 == a0))) else (if (t103.size : Int) = 0 then (none) else (if 0 ≤ (Int.tmod (wrap64 ((Int.tmod a4 (t103.size : Int)) + (t103.size : Int))) (t103.size : Int)) then (if (Int.tmod (wrap64 ((Int.tmod a4 (t103.size : Int)) + (t103.size : Int))) (t103.size : Int)) ≤ (t103.size : Int) then (if (Int.tmod (wrap64 ((Int.tmod a4 (t103.size : Int)) + (t103.size : Int))) (t103.size : Int)) < (t103.size : Int) then ((some (([Go.bits .xor .u8 (bt t103 (Int.tmod (wrap64 ((Int.tmod a4 (t103.size : Int)) + (t103.size : Int))) (t103.size : Int))) a5] : List Int) : List Int)).bind fun y114 => (if (t103.extract 0 ((Int.tmod (wrap64 ((Int.tmod a4 (t103.size : Int)) + (t103.size : Int))) (t103.size : Int)) : Int).toNat).size + (strOfNums y114).size ≤ 9223372036854775807 then (if 0 ≤ (wrap64 ((Int.tmod (wrap64 ((Int.tmod a4 (t103.size : Int)) + (t103.size : Int))) (t103.size : Int)) + 1)) then (if (wrap64 ((Int.tmod (wrap64 ((Int.tmod a4 (t103.size : Int)) + (t103.size : Int))) (t103.size : Int)) + 1)) ≤ (t103.size : Int) then (if ((t103.extract 0 ((Int.tmod (wrap64 ((Int.tmod a4 (t103.size : Int)) + (t103.size : Int))) (t103.size : Int)) : Int).toNat) ++ (strOfNums y114)).size + (t103.extract ((wrap64 ((Int.tmod (wrap64 ((Int.tmod a4 (t103.size : Int)) + (t103.size : Int))) (t103.size : Int)) + 1)) : Int).toNat t103.size).size ≤ 9223372036854775807 then ((finger_More.f a0 (((t103.extract 0 ((Int.tmod (wrap64 ((Int.tmod a4 (t103.size : Int)) + (t103.size : Int))) (t103.size : Int)) : Int).toNat) ++ (strOfNums y114)) ++ (t103.extract ((wrap64 ((Int.tmod (wrap64 ((Int.tmod a4 (t103.size : Int)) + (t103.size : Int))) (t103.size : Int)) + 1)) : Int).toNat t103.size))).bind fun t117 => ((finger_More.f a0 t103).bind fun t118 => (some ((t117 == t118) == (a5 == 0))))) else (none)) else (none)) else (none)) else (none))) else (none)) else (none)) else (none)))) = some r := by rw [if_neg (show ¬ (false = true) by decide)] at H; exact H
        clear H
        have H := H1
        clear H1
        by_cases c47 : t103.toList = ([] : List UInt8)
        · rw [if_pos c47] at H
          have c47b0 : (t103.toList == ([] : List UInt8)) = true := beq_iff_eq.mpr c47
          have c47b1 : (t103.toList != ([] : List UInt8)) = false := bne_eq_false_iff_eq.mpr c47
          clear c47
          replace H := Option.bind_eq_some_iff.mp H
          obtain ⟨t113, A480, H⟩ := H
          replace H : (some (t113 == a0)) = some r := H
          have A48 := Aside0.mk A480
          clear A480
          obtain rfl := Option.some.inj H
          go_wp2_with (first | ((with_reducible refine gate_callee (f := 6) rfl ?_); refine goesL_ (some 61) rfl rfl Tryd.func6 (by kernel_rfl) rfl #[.int .u64 a0, .string t103] rfl (by (try simp only [List.map_toArray, List.map_cons, List.map_nil]); first | done | rfl | (simp only [List.length_drop, List.length_take]; rfl)) ?_; (with_reducible refine (finger_More.calls a0 t103 t113 _ A48.out).mono ?_); rintro e w49 ⟨rfl, hb⟩; refine ⟨_, rfl, ?_⟩; have n0_ := Aside0.mk (below_step (by repeat (first | (with_reducible first | exact HB.out | apply below_alloc | apply pw_below_drewN | apply below_drew1) | exact HB.out)) hb); clear HB; have HB := n0_; clear n0_; (try clear hb); (try clear hb2); (try clear hk); (try clear hi)))
          go_ret
          exact ⟨by first | rfl | (simp [errW_none, errW_some] <;> rfl) | (simp [*, errW_none, errW_some] <;> rfl), by repeat (first | (with_reducible first | exact HB.out | apply below_alloc | apply pw_below_drewN | apply below_drew1) | exact HB.out)⟩
        · rw [if_neg c47] at H
          have c47b0 : (t103.toList == ([] : List UInt8)) = false := beq_eq_false_iff_ne.mpr c47
          have c47b1 : (t103.toList != ([] : List UInt8)) = true := bne_iff_ne.mpr c47
          by_cases c50 : (t103.size : Int) = 0
          · rw [if_pos c50] at H
            exact absurd H (by simp)
          · rw [if_neg c50] at H
            have c50b0 : ((t103.size : Int) == 0) = false := beq_eq_false_iff_ne.mpr c50
            have c50b1 : ((t103.size : Int) != 0) = true := bne_iff_ne.mpr c50
            obtain ⟨ji51, hji51⟩ : ∃ j_ : Int, (Int.tmod (wrap64 ((Int.tmod a4 (t103.size : Int)) + (t103.size : Int))) (t103.size : Int)) = j_ := ⟨_, rfl⟩
            replace H : (if 0 ≤ (ji51) then (if (ji51) ≤ (t103.size : Int) then (if (ji51) < (t103.size : Int) then ((some (([Go.bits .xor .u8 (bt t103 (ji51)) a5] : List Int) : List Int)).bind fun y114 => (if (t103.extract 0 ((ji51) : Int).toNat).size + (strOfNums y114).size ≤ 9223372036854775807 then (if 0 ≤ (wrap64 ((ji51) + 1)) then (if (wrap64 ((ji51) + 1)) ≤ (t103.size : Int) then (if ((t103.extract 0 ((ji51) : Int).toNat) ++ (strOfNums y114)).size + (t103.extract ((wrap64 ((ji51) + 1)) : Int).toNat t103.size).size ≤ 9223372036854775807 then ((finger_More.f a0 (((t103.extract 0 ((ji51) : Int).toNat) ++ (strOfNums y114)) ++ (t103.extract ((wrap64 ((ji51) + 1)) : Int).toNat t103.size))).bind fun t117 => ((finger_More.f a0 t103).bind fun t118 => (some ((t117 == t118) == (a5 == 0))))) else (none)) else (none)) else (none)) else (none))) else (none)) else (none)) else (none)) = some r := by first | (rw [hji51] at H; exact H) | (simp only [hji51] at H ⊢; exact H)
            by_cases c52 : 0 ≤ (ji51)
            · rw [if_pos c52] at H
              have c52b0 := eq_true c52
              have c52b1 : decide (0 ≤ (ji51)) = true := decide_eq_true c52
              clear c52
              by_cases c53 : (ji51) ≤ (t103.size : Int)
              · rw [if_pos c53] at H
                have c53b0 := eq_true c53
                have c53b1 : decide ((ji51) ≤ (t103.size : Int)) = true := decide_eq_true c53
                clear c53
                by_cases c54 : (ji51) < (t103.size : Int)
                · rw [if_pos c54] at H
                  have c54b0 : decide ((ji51) < (t103.size : Int)) = true := decide_eq_true c54
                  clear c54
                  obtain ⟨y114, hy114⟩ : ∃ y_ : List Int, y_ = (([Go.bits .xor .u8 (bt t103 (ji51)) a5] : List Int)) := ⟨_, rfl⟩
                  replace H : (if (t103.extract 0 ((ji51) : Int).toNat).size + (strOfNums y114).size ≤ 9223372036854775807 then (if 0 ≤ (wrap64 ((ji51) + 1)) then (if (wrap64 ((ji51) + 1)) ≤ (t103.size : Int) then (if ((t103.extract 0 ((ji51) : Int).toNat) ++ (strOfNums y114)).size + (t103.extract ((wrap64 ((ji51) + 1)) : Int).toNat t103.size).size ≤ 9223372036854775807 then ((finger_More.f a0 (((t103.extract 0 ((ji51) : Int).toNat) ++ (strOfNums y114)) ++ (t103.extract ((wrap64 ((ji51) + 1)) : Int).toNat t103.size))).bind fun t117 => ((finger_More.f a0 t103).bind fun t118 => (some ((t117 == t118) == (a5 == 0))))) else (none)) else (none)) else (none)) else (none)) = some r := by first | (rw [hy114]; with_reducible exact H) | (have H2_ := (Option.bind_some _ _).symm.trans H; rw [hy114]; with_reducible exact H2_) | (have H2_ := (Option.bind_some _ _).symm.trans H; with_reducible exact H2_) | with_reducible exact H | (rw [hy114]; exact H) | exact H
                  have Ny114 := Aside0.mk hy114
                  clear hy114
                  by_cases c56 : (t103.extract 0 ((ji51) : Int).toNat).size + (strOfNums y114).size ≤ 9223372036854775807
                  · rw [if_pos c56] at H
                    have c56b0 := eq_true c56
                    have c56b1 : decide ((t103.extract 0 ((ji51) : Int).toNat).size + (strOfNums y114).size ≤ 9223372036854775807) = true := decide_eq_true c56
                    try have c56b2 : (9223372036854775807 < (t103.extract 0 ((ji51) : Int).toNat).size + (strOfNums y114).size) = False := eq_false (Nat.not_lt.2 c56)
                    try have c56b3 : (9223372036854775807 < (ji51).toNat + (strOfNums y114).size) = False := eq_false (by have h_ := c56; rw [ByteArray.size_extract] at h_; have h2_ : ji51 ≤ (t103.size : Int) := of_decide_eq_true (by assumption); omega)
                    obtain ⟨ji57, hji57⟩ : ∃ j_ : Int, (wrap64 ((ji51) + 1)) = j_ := ⟨_, rfl⟩
                    replace H : (if 0 ≤ (ji57) then (if (ji57) ≤ (t103.size : Int) then (if ((t103.extract 0 ((ji51) : Int).toNat) ++ (strOfNums y114)).size + (t103.extract ((ji57) : Int).toNat t103.size).size ≤ 9223372036854775807 then ((finger_More.f a0 (((t103.extract 0 ((ji51) : Int).toNat) ++ (strOfNums y114)) ++ (t103.extract ((ji57) : Int).toNat t103.size))).bind fun t117 => ((finger_More.f a0 t103).bind fun t118 => (some ((t117 == t118) == (a5 == 0))))) else (none)) else (none)) else (none)) = some r := by first | (rw [hji57] at H; exact H) | (simp only [hji57] at H ⊢; exact H)
                    have hji57w : (IntKind.i64.wrap ((ji51) + 1)) = ji57 := (i64_w _).trans hji57
                    by_cases c58 : 0 ≤ (ji57)
                    · rw [if_pos c58] at H
                      have c58b0 := eq_true c58
                      have c58b1 : decide (0 ≤ (ji57)) = true := decide_eq_true c58
                      clear c58
                      by_cases c59 : (ji57) ≤ (t103.size : Int)
                      · rw [if_pos c59] at H
                        have c59b0 := eq_true c59
                        have c59b1 : decide ((ji57) ≤ (t103.size : Int)) = true := decide_eq_true c59
                        clear c59
                        by_cases c60 : ((t103.extract 0 ((ji51) : Int).toNat) ++ (strOfNums y114)).size + (t103.extract ((ji57) : Int).toNat t103.size).size ≤ 9223372036854775807
                        · rw [if_pos c60] at H
                          have c60b0 := eq_true c60
                          have c60b1 : decide (((t103.extract 0 ((ji51) : Int).toNat) ++ (strOfNums y114)).size + (t103.extract ((ji57) : Int).toNat t103.size).size ≤ 9223372036854775807) = true := decide_eq_true c60
                          try have c60b2 : (9223372036854775807 < ((t103.extract 0 ((ji51) : Int).toNat) ++ (strOfNums y114)).size + (t103.extract ((ji57) : Int).toNat t103.size).size) = False := eq_false (Nat.not_lt.2 c60)
                          try have c60b3 : (9223372036854775807 < (ji51).toNat + (strOfNums y114).size + (t103.size - (ji57).toNat)) = False := eq_false (by have h_ := c60; rw [ByteArray.size_append, ByteArray.size_extract, ByteArray.size_extract] at h_; have h2_ : ji51 ≤ (t103.size : Int) := of_decide_eq_true (by assumption); omega)
                          replace H := Option.bind_eq_some_iff.mp H
                          obtain ⟨t117, A610, H⟩ := H
                          replace H : ((finger_More.f a0 t103).bind fun t118 => (some ((t117 == t118) == (a5 == 0)))) = some r := H
                          have A61 := Aside0.mk A610
                          clear A610
                          replace H := Option.bind_eq_some_iff.mp H
                          obtain ⟨t118, A620, H⟩ := H
                          replace H : (some ((t117 == t118) == (a5 == 0))) = some r := H
                          have A62 := Aside0.mk A620
                          clear A620
                          obtain rfl := Option.some.inj H
                          try go_wp2
                          have n0_ := Aside0.mk (below_drew1 HB.out)
                          clear HB
                          have HB := n0_
                          clear n0_
                          have p55 : 0 ≤ ((ji51) : Int) := of_decide_eq_true (by first | (with_reducible assumption) | assumption)
                          have q55 : (ji51) < (t103.size : Int) := of_decide_eq_true (by first | (with_reducible assumption) | assumption)
                          have hx55 := bt_at t103 (ji51)
                          replace p55 := eq_true p55
                          replace q55 := eq_true q55
                          refine start_ (n := 17) (S := fun w' => True) (ds := []) #[false, false, false, false, false, false, false, false, false, false, false, false, false, false, false, false, false] (by kernel_rfl) rfl rfl trivial (fun hHeld => ?_); refine with_tabW foghornlaw11_FingerTurns.tab7 foghornlaw11_FingerTurns.bits7 (fun HT_ HW_ => ?_)
                          generalize wc.drew = w63 at HB hHeld ⊢
                          refine pure_ (i := 0) (N := some 74) (v := ?_) (a' := ?_) #[true, false, false, false, false, false, false, false, false, false, false, false, false, false, false, false, false] rfl rfl (any_of HT_.out (by kernel_rfl)) (fun _ _ _ h => h) (Or.inl ⟨by rfl, ?_⟩) ?_ ?_
                          rotate_left
                          · intro w'
                            go_simp
                            with_reducible rfl
                          rotate_left
                          · simp only [Act.put, List.setIfInBounds_toArray, List.set_cons_zero, List.set_cons_succ, i64_w, i32_w]
                            rfl
                          refine pure_ (i := 1) (N := some 75) (v := ?_) (a' := ?_) #[true, true, false, false, false, false, false, false, false, false, false, false, false, false, false, false, false] rfl rfl (any_of HT_.out (by kernel_rfl)) (fun _ _ _ h => h) (Or.inl ⟨by rfl, ?_⟩) ?_ ?_
                          rotate_left
                          · intro w'
                            go_simp
                            with_reducible rfl
                          rotate_left
                          · simp only [Act.put, List.setIfInBounds_toArray, List.set_cons_zero, List.set_cons_succ, i64_w, i32_w]
                            rfl
                          refine pure_ (i := 2) (N := some 76) (v := ?_) (a' := ?_) #[true, true, true, false, false, false, false, false, false, false, false, false, false, false, false, false, false] rfl rfl (any_of HT_.out (by kernel_rfl)) (fun _ _ _ h => h) (Or.inl ⟨by rfl, ?_⟩) ?_ ?_
                          rotate_left
                          · intro w'
                            go_simp
                            with_reducible rfl
                          rotate_left
                          · simp only [Act.put, List.setIfInBounds_toArray, List.set_cons_zero, List.set_cons_succ, i64_w, i32_w]
                            rfl
                          refine pure_ (i := 3) (N := some 77) (v := ?_) (a' := ?_) #[true, true, true, true, false, false, false, false, false, false, false, false, false, false, false, false, false] rfl rfl (any_of HT_.out (by kernel_rfl)) (fun _ _ _ h => h) (Or.inl ⟨by rfl, ?_⟩) ?_ ?_
                          rotate_left
                          · intro w'
                            go_simp
                            with_reducible rfl
                          rotate_left
                          · simp only [Act.put, List.setIfInBounds_toArray, List.set_cons_zero, List.set_cons_succ, i64_w, i32_w]
                            rfl
                          refine pure_ (i := 4) (N := some 78) (v := ?_) (a' := ?_) #[true, true, true, true, true, false, false, false, false, false, false, false, false, false, false, false, false] rfl rfl (any_of HT_.out (by kernel_rfl)) (fun _ _ _ h => h) (Or.inl ⟨by rfl, ?_⟩) ?_ ?_
                          rotate_left
                          · intro w'
                            go_simp
                            with_reducible rfl
                          rotate_left
                          · simp only [Act.put, List.setIfInBounds_toArray, List.set_cons_zero, List.set_cons_succ, i64_w, i32_w]
                            rfl
                          refine pure_ (i := 6) (N := some 80) (v := ?_) (a' := ?_) #[true, true, true, true, true, false, true, false, false, false, false, false, false, false, false, false, false] rfl rfl (any_of HT_.out (by kernel_rfl)) (fun _ _ _ h => h) (Or.inl ⟨by rfl, ?_⟩) ?_ ?_
                          rotate_left
                          · intro w'
                            go_simp
                            with_reducible rfl
                          rotate_left
                          · simp only [Act.put, List.setIfInBounds_toArray, List.set_cons_zero, List.set_cons_succ, i64_w, i32_w]
                            rfl
                          refine pure_ (i := 11) (N := some 85) (v := ?_) (a' := ?_) #[true, true, true, true, true, false, true, false, false, false, false, true, false, false, false, false, false] rfl rfl (any_of HT_.out (by kernel_rfl)) (fun _ _ _ h => h) (Or.inl ⟨by rfl, ?_⟩) ?_ ?_
                          rotate_left
                          · intro w'
                            go_simp
                            with_reducible rfl
                          rotate_left
                          · simp only [Act.put, List.setIfInBounds_toArray, List.set_cons_zero, List.set_cons_succ, i64_w, i32_w]
                            rfl
                          refine pure_ (i := 12) (N := some 86) (v := ?_) (a' := ?_) #[true, true, true, true, true, false, true, false, false, false, false, true, true, false, false, false, false] rfl rfl (any_of HT_.out (by kernel_rfl)) (fun _ _ _ h => h) (Or.inl ⟨by rfl, ?_⟩) ?_ ?_
                          rotate_left
                          · intro w'
                            go_simp
                            with_reducible rfl
                          rotate_left
                          · simp only [Act.put, List.setIfInBounds_toArray, List.set_cons_zero, List.set_cons_succ, i64_w, i32_w]
                            rfl
                          refine pure_ (i := 13) (N := some 87) (v := ?_) (a' := ?_) #[true, true, true, true, true, false, true, false, false, false, false, true, true, true, false, false, false] rfl rfl (any_of HT_.out (by kernel_rfl)) (fun _ _ _ h => h) (Or.inl ⟨by rfl, ?_⟩) ?_ ?_
                          rotate_left
                          · intro w'
                            go_simp
                            with_reducible rfl
                          rotate_left
                          · simp only [Act.put, List.setIfInBounds_toArray, List.set_cons_zero, List.set_cons_succ, i64_w, i32_w]
                            rfl
                          refine pure_ (i := 14) (N := some 88) (v := ?_) (a' := ?_) #[true, true, true, true, true, false, true, false, false, false, false, true, true, true, true, false, false] rfl rfl (any_of HT_.out (by kernel_rfl)) (fun _ _ _ h => h) (Or.inl ⟨by rfl, ?_⟩) ?_ ?_
                          rotate_left
                          · intro w'
                            go_simp
                            with_reducible rfl
                          rotate_left
                          · simp only [Act.put, List.setIfInBounds_toArray, List.set_cons_zero, List.set_cons_succ, i64_w, i32_w]
                            rfl
                          refine take_ (i := 5) (N := some 79) (v := ?_) (a' := ?_) #[true, true, true, true, true, true, true, false, false, false, false, true, true, true, true, false, false] rfl rfl (take_ofW HT_.out HW_.out (by kernel_rfl)) (fun _ _ _ h => h) (Or.inl ⟨by rfl, ?_⟩) hHeld ?_ ?_
                          rotate_left
                          · intro w' _
                            go_simp
                            with_reducible rfl
                          rotate_left
                          · simp only [Act.put, List.setIfInBounds_toArray, List.set_cons_zero, List.set_cons_succ, i64_w, i32_w]
                            rfl
                          refine pure_ (i := 7) (N := some 81) (v := ?_) (a' := ?_) #[true, true, true, true, true, true, true, true, false, false, false, true, true, true, true, false, false] rfl rfl (any_of HT_.out (by kernel_rfl)) (fun _ _ _ h => h) (Or.inl ⟨by rfl, ?_⟩) ?_ ?_
                          rotate_left
                          · intro w'
                            go_simp
                            with_reducible rfl
                          rotate_left
                          · simp only [Act.put, List.setIfInBounds_toArray, List.set_cons_zero, List.set_cons_succ, i64_w, i32_w]
                            rfl
                          refine one_ (i := 8) (N := some 82) #[true, true, true, true, true, true, true, true, true, false, false, true, true, true, true, false, false] rfl rfl (one_of HT_.out (by kernel_rfl)) (by decide) (fun K hK => ?_)
                          refine Kd.R_lit_step (Kd.int .u8) _ 5 ?hg (N := 82) ?hd (xs := ([Go.bits .xor .u8 (bt t103 (ji51)) a5] : List Int)) (inner := [.int .u8 (Go.bits .xor .u8 (bt t103 (ji51)) a5)]) (ok := fun _ => True) (okp := fun _ => True) ?hr ?hp (fun _ hk => hk) trivial (Below.refl _ _) (Nat.le_refl _) (by simp) ?_; (case hd => rfl); (case hg => rfl); (case hr => first | (go_simp; done) | (go_simp; rfl)); (case hp => exact (Reps.one (show Kd.M (Kd.int .u8) _ _ _ (Go.bits .xor .u8 (bt t103 (ji51)) a5) [.int .u8 (Go.bits .xor .u8 (bt t103 (ji51)) a5)] from rfl) (Reps.none _ _)))
                          intro v115 w64 ho65 hb hg_ hnew_
                          clear hg_ hnew_
                          (first | rw [← Ny114.out] at ho65 | (simp only [Int.reduceToNat] at ho65; rw [← Ny114.out] at ho65))
                          have n0_ := Aside0.mk (Kd.R_lower ho65 (below_size (by repeat (first | (with_reducible first | exact HB.out | apply below_alloc | apply pw_below_drewN | apply below_drew1) | exact HB.out))))
                          have n1_ := Aside0.mk (below_step (by repeat (first | (with_reducible first | exact HB.out | apply below_alloc | apply pw_below_drewN | apply below_drew1) | exact HB.out)) hb)
                          clear HB
                          have HO116 := n0_
                          have HB := n1_
                          clear n0_ n1_
                          clear hb ho65
                          refine hK.out _ _ trivial (fun hHeld => ?_)
                          clear hK K
                          refine norm_ (a' := ?_) ?_ ?_
                          rotate_left
                          · show Act.put _ (some 82) _ = _
                            simp only [Act.put, List.setIfInBounds_toArray, List.set_cons_zero, List.set_cons_succ, i64_w, i32_w]
                            rfl
                          refine one_ (i := 9) (N := some 83) #[true, true, true, true, true, true, true, true, true, true, false, true, true, true, true, false, false] rfl rfl (one_of HT_.out (by kernel_rfl)) (by decide) (fun K hK => ?_)
                          have hcv66 := own_string (P := Tryd.prog) Tryd.underlying27 Tryd.underlying5 Tryd.underlying9 (Kd.own_of_R HO116.out)
                          refine value_ (w1 := ?_) (v := ?_) (by rfl) rfl ?_ ?_
                          rotate_left 2
                          · go_simp
                            constructor
                            · rfl
                            · rfl
                          clear hcv66
                          refine hK.out _ _ trivial (fun hHeld => ?_)
                          clear hK K
                          refine norm_ (a' := ?_) ?_ ?_
                          rotate_left
                          · show Act.put _ (some 83) _ = _
                            simp only [Act.put, List.setIfInBounds_toArray, List.set_cons_zero, List.set_cons_succ, i64_w, i32_w]
                            rfl
                          refine pure_ (i := 10) (N := some 84) (v := ?_) (a' := ?_) #[true, true, true, true, true, true, true, true, true, true, true, true, true, true, true, false, false] rfl rfl (any_of HT_.out (by kernel_rfl)) (fun _ _ _ h => h) (Or.inl ⟨by rfl, ?_⟩) ?_ ?_
                          rotate_left
                          · intro w'
                            go_simp
                            with_reducible rfl
                          rotate_left
                          · simp only [Act.put, List.setIfInBounds_toArray, List.set_cons_zero, List.set_cons_succ, i64_w, i32_w]
                            rfl
                          refine pure_ (i := 15) (N := some 89) (v := ?_) (a' := ?_) #[true, true, true, true, true, true, true, true, true, true, true, true, true, true, true, true, false] rfl rfl (any_of HT_.out (by kernel_rfl)) (fun _ _ _ h => h) (Or.inl ⟨by rfl, ?_⟩) ?_ ?_
                          rotate_left
                          · intro w'
                            go_simp
                            with_reducible rfl
                          rotate_left
                          · simp only [Act.put, List.setIfInBounds_toArray, List.set_cons_zero, List.set_cons_succ, i64_w, i32_w]
                            rfl
                          refine pure_ (i := 16) (N := some 13) (v := ?_) (a' := ?_) #[true, true, true, true, true, true, true, true, true, true, true, true, true, true, true, true, true] rfl rfl (any_of HT_.out (by kernel_rfl)) (fun _ _ _ h => h) (Or.inl ⟨by rfl, ?_⟩) ?_ ?_
                          rotate_left
                          · intro w'
                            go_simp
                            with_reducible rfl
                          rotate_left
                          · simp only [Act.put, List.setIfInBounds_toArray, List.set_cons_zero, List.set_cons_succ, i64_w, i32_w]
                            rfl
                          refine done_ (done_of HT_.out (by kernel_rfl)) ?_
                          try go_wp2_with (first | ((with_reducible refine gate_callee (f := 6) rfl ?_); refine goesL_ (some 92) rfl rfl Tryd.func6 (by kernel_rfl) rfl #[.int .u64 a0, .string (((t103.extract 0 ((ji51) : Int).toNat) ++ (strOfNums y114)) ++ (t103.extract ((ji57) : Int).toNat t103.size))] rfl (by (try simp only [List.map_toArray, List.map_cons, List.map_nil]); first | done | (simp only [hji51, hji57]; rfl) | rfl | (simp only [List.length_drop, List.length_take]; rfl)) ?_; (with_reducible refine (finger_More.calls a0 (((t103.extract 0 ((ji51) : Int).toNat) ++ (strOfNums y114)) ++ (t103.extract ((ji57) : Int).toNat t103.size)) t117 _ A61.out).mono ?_); rintro e w67 ⟨rfl, hb⟩; refine ⟨_, rfl, ?_⟩; have n0_ := Aside0.mk (Kd.R_below (by (with_reducible repeat (first | apply Kd.R_alloc | apply Kd.R_drewN | apply Kd.R_drew)); exact HO116.out) hb); have n1_ := Aside0.mk (below_step (by repeat (first | (with_reducible first | exact HB.out | apply below_alloc | apply pw_below_drewN | apply below_drew1) | exact HB.out)) hb); clear HO116; clear HB; have HO116 := n0_; have HB := n1_; clear n0_ n1_; (try clear hb); (try clear hb2); (try clear hk); (try clear hi)) | ((with_reducible refine gate_callee (f := 6) rfl ?_); refine goesL_ (some 95) rfl rfl Tryd.func6 (by kernel_rfl) rfl #[.int .u64 a0, .string t103] rfl (by (try simp only [List.map_toArray, List.map_cons, List.map_nil]); first | done | rfl | (simp only [List.length_drop, List.length_take]; rfl)) ?_; (with_reducible refine (finger_More.calls a0 t103 t118 _ A62.out).mono ?_); rintro e w68 ⟨rfl, hb⟩; refine ⟨_, rfl, ?_⟩; have n0_ := Aside0.mk (Kd.R_below (by (with_reducible repeat (first | apply Kd.R_alloc | apply Kd.R_drewN | apply Kd.R_drew)); exact HO116.out) hb); have n1_ := Aside0.mk (below_step (by repeat (first | (with_reducible first | exact HB.out | apply below_alloc | apply pw_below_drewN | apply below_drew1) | exact HB.out)) hb); clear HO116; clear HB; have HO116 := n0_; have HB := n1_; clear n0_ n1_; (try clear hb); (try clear hb2); (try clear hk); (try clear hi)))
                          go_ret
                          exact ⟨by first | rfl | (simp [errW_none, errW_some] <;> rfl) | (simp only [← hji51, ← hji57]; first | rfl | (simp [errW_none, errW_some] <;> rfl)) | (simp [*, errW_none, errW_some] <;> rfl), by repeat (first | (with_reducible first | exact HB.out | apply below_alloc | apply pw_below_drewN | apply below_drew1) | exact HB.out)⟩
                        · rw [if_neg c60] at H
                          exact absurd H (by simp)
                      · rw [if_neg c59] at H
                        exact absurd H (by simp)
                    · rw [if_neg c58] at H
                      exact absurd H (by simp)
                  · rw [if_neg c56] at H
                    exact absurd H (by simp)
                · rw [if_neg c54] at H
                  exact absurd H (by simp)
              · rw [if_neg c53] at H
                exact absurd H (by simp)
            · rw [if_neg c52] at H
              exact absurd H (by simp)


-- by hand: label_Right

/-! ### finger_Of: function 9 -/
def finger_Of.l0 : Nat → Int → List (S41) → Int → Int → Option (ByteArray × Int)
  | 0, _, _, _, _ => none
  | k + 1, x4, x10, x11, x12 => if x12 < x11 then (if 0 ≤ x12 then (if x12 < (x10.length : Int) then (if ((rd_T41 x10 x12).f0).size + 1 ≤ 9223372036854775807 then (if (((rd_T41 x10 x12).f0) ++ (⟨#[61]⟩ : ByteArray)).size + ((rd_T41 x10 x12).f1).size ≤ 9223372036854775807 then (if ((((rd_T41 x10 x12).f0) ++ (⟨#[61]⟩ : ByteArray)) ++ ((rd_T41 x10 x12).f1)).size + 1 ≤ 9223372036854775807 then ((finger_More.f x4 (((((rd_T41 x10 x12).f0) ++ (⟨#[61]⟩ : ByteArray)) ++ ((rd_T41 x10 x12).f1)) ++ (⟨#[10]⟩ : ByteArray))).bind fun t122 => (finger_Of.l0 k t122 x10 x11 (wrap64 (x12 + 1)))) else (none)) else (none)) else (none)) else (none)) else (none)) else ((finger_Hex.f x4).bind fun t123 => (some (t123, 0)))
def finger_Of.f (k : Nat) (l0 : List (S41)) : Option (ByteArray × Int) := (label_Right.f l0).bind fun t119 => (if t119 = true then (finger_Of.l0 k 14695981039346656037 l0 (l0.length : Int) 0) else (some ((⟨#[]⟩ : ByteArray), 1)))
theorem finger_Of.mono_l : ∀ k, (∀ y0 y1 y2 y3, LeO (finger_Of.l0 k y0 y1 y2 y3) (finger_Of.l0 (k + 1) y0 y1 y2 y3))
  | 0 => fun _ _ _ _ r h => by simp [finger_Of.l0] at h
  | k + 1 => by
    have ih0 := finger_Of.mono_l k
    · intro y0 y1 y2 y3
      unfold finger_Of.l0
      repeat' first
      | (with_reducible exact ih0 _ _ _ _)
      | (with_reducible exact LeO.refl _)
      | (with_reducible exact LeO.none _)
      | (with_reducible refine LeO.ite ?_ ?_)
      | (with_reducible refine LeO.bind ?_ (fun _ => ?_))
      | exact ih0 _ _ _ _
      | exact LeO.none _
      | refine LeO.ite ?_ ?_
      | refine LeO.bind ?_ (fun _ => ?_)
theorem finger_Of.mono : ∀ a0 k, LeO (finger_Of.f k a0) (finger_Of.f (k + 1) a0) := by
  intro a0 k
  have ih0 := finger_Of.mono_l k
  unfold finger_Of.f
  repeat' first
      | (with_reducible exact ih0 _ _ _ _)
      | (with_reducible exact LeO.refl _)
      | (with_reducible exact LeO.none _)
      | (with_reducible refine LeO.ite ?_ ?_)
      | (with_reducible refine LeO.bind ?_ (fun _ => ?_))
      | exact ih0 _ _ _ _
      | exact LeO.none _
      | refine LeO.ite ?_ ?_
      | refine LeO.bind ?_ (fun _ => ?_)
set_option maxHeartbeats 8000000 in
set_option maxRecDepth 100000 in
theorem finger_Of.calls (k : Nat) (A0 : Option Addr) (c0 : Nat) (l0 : List (S41)) (r1 : ByteArray) (r2 : Int) (w : World) (hG : GOK w) (hr0 : Kd.C k41 w A0 l0.length l0) (hc0 : l0.length ≤ c0) (h : finger_Of.f k l0 = some (r1, r2)) :
    Calls Tryd.prog 9 #[.slice A0 l0.length c0] w fun e w' => e = .returned (.tuple #[.string r1, .int .i64 r2]) ∧ Below w.heap.size w w' := by
  have hu41 := Tryd.underlying41
  have HR0 := Aside0.mk hr0
  have HC0 := Aside0.mk hc0
  clear hr0 hc0
  have HG := Aside0.mk hG
  clear hG
  have HB := Aside0.mk (Below.refl w.heap.size w)
  have H : ((label_Right.f l0).bind fun t119 => (if t119 = true then (finger_Of.l0 k 14695981039346656037 l0 (l0.length : Int) 0) else (some ((⟨#[]⟩ : ByteArray), 1)))) = some (r1, r2) := h
  clear h
  replace H := Option.bind_eq_some_iff.mp H
  obtain ⟨t119, A20, H⟩ := H
  replace H : (if t119 = true then (finger_Of.l0 k 14695981039346656037 l0 (l0.length : Int) 0) else (some ((⟨#[]⟩ : ByteArray), 1))) = some (r1, r2) := H
  have A2 := Aside0.mk A20
  clear A20
  by_cases c3 : t119 = true
  · subst c3
    have H1 : (finger_Of.l0 k 14695981039346656037 l0 (l0.length : Int) 0) = some (r1, r2) := by rw [if_pos rfl] at H; exact H
    clear H
    have H := H1
    clear H1
    have H' := Aside0.mk H
    clear H
    go_enter Tryd.func9, Tryd.ntmps9
    go_wp2_with (first | ((with_reducible refine gate_callee (f := 17) rfl ?_); refine goesL_ (some 8) rfl rfl Tryd.func17 (by kernel_rfl) rfl #[.slice A0 l0.length c0] rfl (by (try simp only [List.map_toArray, List.map_cons, List.map_nil]); first | done | rfl | (simp only [List.length_drop, List.length_take]; rfl)) ?_; (with_reducible refine (label_Right.calls _ _ l0 true _ ?side1 ?side2 A2.out).mono ?_); (case side1 => repeat (first | exact HR0.out | (with_reducible refine Kd.C_alloc ?_ _) | (with_reducible refine Kd.C_drewN ?_ _) | (with_reducible refine Kd.C_drew ?_))); (case side2 => exact HC0.out); rintro e w4 ⟨rfl, hb⟩; refine ⟨_, rfl, ?_⟩; have n0_ := Aside0.mk (below_step (by repeat (first | (with_reducible first | exact HB.out | apply below_alloc | apply pw_below_drewN | apply below_drew1) | exact HB.out)) hb); clear HB; have HB := n0_; clear n0_; (try clear hb); (try clear hb2); (try clear hk); (try clear hi)))
    go_loopg [4, 12] k (fun kq v4 v12 w' => ∃ (x4_1 : Int) (x12_1 : Int), v4 = .int .u64 x4_1 ∧ v12 = .int .i64 x12_1 ∧ Aside0 (finger_Of.l0 kq x4_1 l0 (l0.length : Int) x12_1 = some (r1, r2)) ∧ Aside0 (kq ≤ k) ∧ Aside0 (Below w.heap.size w w'))
    case atStart => exact ⟨(14695981039346656037), (0), (by first | rfl | (simp; done) | (simp [*]; done)), (by first | rfl | (simp; done) | (simp [*]; done)), H', ⟨Nat.le_refl _⟩, ⟨by repeat (first | (with_reducible first | exact HB.out | apply below_alloc | apply pw_below_drewN | apply below_drew1) | exact HB.out)⟩⟩
    case round =>
      clear H'
      try clear c1
      try clear p2
      try clear c3
      obtain ⟨x4_1, x12_1, rfl, rfl, HA, HK1, HB⟩ := hrel
      cases gk with
      | zero => exact absurd HA.out (by simp [finger_Of.l0])
      | succ k1 =>
        have H := HA.out
        clear HA
        simp only [finger_Of.l0] at H
        by_cases c5 : x12_1 < (l0.length : Int)
        · rw [if_pos c5] at H
          have c5b0 : decide (x12_1 < (l0.length : Int)) = true := decide_eq_true c5
          clear c5
          by_cases c6 : 0 ≤ x12_1
          · rw [if_pos c6] at H
            have c6b0 : decide (0 ≤ x12_1) = true := decide_eq_true c6
            clear c6
            by_cases c7 : x12_1 < (l0.length : Int)
            · rw [if_pos c7] at H
              have c7b0 : decide (x12_1 < (l0.length : Int)) = true := decide_eq_true c7
              clear c7
              by_cases c8 : ((rd_T41 l0 x12_1).f0).size + 1 ≤ 9223372036854775807
              · rw [if_pos c8] at H
                have c8b0 := eq_true c8
                have c8b1 : decide (((rd_T41 l0 x12_1).f0).size + 1 ≤ 9223372036854775807) = true := decide_eq_true c8
                try have c8b2 : (9223372036854775807 < ((rd_T41 l0 x12_1).f0).size + 1) = False := eq_false (Nat.not_lt.2 c8)
                by_cases c9 : (((rd_T41 l0 x12_1).f0) ++ (⟨#[61]⟩ : ByteArray)).size + ((rd_T41 l0 x12_1).f1).size ≤ 9223372036854775807
                · rw [if_pos c9] at H
                  have c9b0 := eq_true c9
                  have c9b1 : decide ((((rd_T41 l0 x12_1).f0) ++ (⟨#[61]⟩ : ByteArray)).size + ((rd_T41 l0 x12_1).f1).size ≤ 9223372036854775807) = true := decide_eq_true c9
                  try have c9b2 : (9223372036854775807 < (((rd_T41 l0 x12_1).f0) ++ (⟨#[61]⟩ : ByteArray)).size + ((rd_T41 l0 x12_1).f1).size) = False := eq_false (Nat.not_lt.2 c9)
                  try have c9b3 : (9223372036854775807 < ((rd_T41 l0 x12_1).f0).size + 1 + ((rd_T41 l0 x12_1).f1).size) = False := eq_false (by have h_ := c9; simp only [ByteArray.size_append] at h_; have : ((⟨#[61]⟩ : ByteArray)).size = 1 := rfl; omega)
                  by_cases c10 : ((((rd_T41 l0 x12_1).f0) ++ (⟨#[61]⟩ : ByteArray)) ++ ((rd_T41 l0 x12_1).f1)).size + 1 ≤ 9223372036854775807
                  · rw [if_pos c10] at H
                    have c10b0 := eq_true c10
                    have c10b1 : decide (((((rd_T41 l0 x12_1).f0) ++ (⟨#[61]⟩ : ByteArray)) ++ ((rd_T41 l0 x12_1).f1)).size + 1 ≤ 9223372036854775807) = true := decide_eq_true c10
                    try have c10b2 : (9223372036854775807 < ((((rd_T41 l0 x12_1).f0) ++ (⟨#[61]⟩ : ByteArray)) ++ ((rd_T41 l0 x12_1).f1)).size + 1) = False := eq_false (Nat.not_lt.2 c10)
                    try have c10b3 : (9223372036854775807 < ((rd_T41 l0 x12_1).f0).size + 1 + ((rd_T41 l0 x12_1).f1).size + 1) = False := eq_false (by have h_ := c10; simp only [ByteArray.size_append] at h_; have : ((⟨#[61]⟩ : ByteArray)).size = 1 := rfl; omega)
                    try have c10b4 : (9223372036854775807 ≤ ((rd_T41 l0 x12_1).f0).size + 1 + ((rd_T41 l0 x12_1).f1).size) = False := eq_false (by have h_ := c10; simp only [ByteArray.size_append] at h_; have : ((⟨#[61]⟩ : ByteArray)).size = 1 := rfl; omega)
                    try have c10b5 : (9223372036854775807 ≤ (((((rd_T41 l0 x12_1).f0) ++ (⟨#[61]⟩ : ByteArray)) ++ ((rd_T41 l0 x12_1).f1))).size) = False := eq_false (by have h_ := c10; simp only [ByteArray.size_append] at h_; have : ((⟨#[61]⟩ : ByteArray)).size = 1 := rfl; (simp only [ByteArray.size_append]; omega))
                    replace H := Option.bind_eq_some_iff.mp H
                    obtain ⟨t122, A110, H⟩ := H
                    replace H : (finger_Of.l0 k1 t122 l0 (l0.length : Int) (wrap64 (x12_1 + 1))) = some (r1, r2) := H
                    have A11 := Aside0.mk A110
                    clear A110
                    have H' := Aside0.mk H
                    clear H
                    have p120 : 0 ≤ (x12_1 : Int) := of_decide_eq_true (by first | (with_reducible assumption) | assumption)
                    have q120 : x12_1 < (l0.length : Int) := of_decide_eq_true (by first | (with_reducible assumption) | assumption)
                    obtain ⟨ad120, e120, hx120_0, hx120_1⟩ := at_T41 HR0.out x12_1 p120 q120
                    cases e120
                    replace hx120_0 := (HB.out.cell (World.block_lt_of_cell? w _ hx120_0)).trans hx120_0
                    replace hx120_1 := (HB.out.cell (World.block_lt_of_cell? w _ hx120_1)).trans hx120_1
                    replace p120 := eq_true p120
                    replace q120 := eq_true q120
                    go_wp2_with (first | ((with_reducible refine gate_dst (N := 6) rfl ?_); refine box_event ?hg (N := 6) ?hd (cs := #[.string (⟨#[]⟩ : ByteArray), .string (⟨#[]⟩ : ByteArray)]) (t := 41) ?hr ?_; (case hd => rfl); (case hg => rfl); (case hr => first | (go_simp; done) | (go_simp; rfl)); intro gb121 hg w12 hbox hb; have n0_ := Aside0.mk (below_step (by repeat (first | (with_reducible first | exact HB.out | apply below_alloc | apply pw_below_drewN | apply below_drew1) | exact HB.out)) hb); have n1_ := Aside0.mk (hbox); have n2_ := Aside0.mk ((by rw [hg]; exact (below_size (by repeat (first | (with_reducible first | exact HB.out | apply below_alloc | apply pw_below_drewN | apply below_drew1) | exact HB.out))) : w.heap.size ≤ gb121)); have n3_ := Aside0.mk ((by rw [hg]; exact (below_size (by repeat (first | (with_reducible first | exact HB.out | apply below_alloc | apply pw_below_drewN | apply below_drew1) | exact HB.out))) : w.heap.size ≤ gb121)); clear HB; have HB := n0_; have BK121 := n1_; have GW121 := n2_; have GE121 := n3_; clear n0_ n1_ n2_ n3_; clear hb hbox hg; have hcz13_0 : w12.cell? ⟨gb121, 0, none⟩ = some (.string (⟨#[]⟩ : ByteArray)) := (blk_cell BK121.out 0).trans rfl; have hcz13_1 : w12.cell? ⟨gb121, 1, none⟩ = some (.string (⟨#[]⟩ : ByteArray)) := (blk_cell BK121.out 1).trans rfl; have hfz13_0 := blk_frozen BK121.out 0; have hfz13_1 := blk_frozen BK121.out 1) | ((with_reducible refine gate_callee (f := 6) rfl ?_); refine goesL_ (some 24) rfl rfl Tryd.func6 (by kernel_rfl) rfl #[.int .u64 x4_1, .string (((((rd_T41 l0 x12_1).f0) ++ (⟨#[61]⟩ : ByteArray)) ++ ((rd_T41 l0 x12_1).f1)) ++ (⟨#[10]⟩ : ByteArray))] rfl (by (try simp only [List.map_toArray, List.map_cons, List.map_nil]); first | done | rfl | (simp only [List.length_drop, List.length_take]; rfl)) ?_; (with_reducible refine (finger_More.calls x4_1 (((((rd_T41 l0 x12_1).f0) ++ (⟨#[61]⟩ : ByteArray)) ++ ((rd_T41 l0 x12_1).f1)) ++ (⟨#[10]⟩ : ByteArray)) t122 _ A11.out).mono ?_); rintro e w14 ⟨rfl, hb⟩; refine ⟨_, rfl, ?_⟩; have n0_ := Aside0.mk (blk_below (g := gb121) (o := .cells #[.string ((rd_T41 l0 x12_1).f0), .string ((rd_T41 l0 x12_1).f1)] 41 (0, 0)) (by (with_reducible repeat (first | refine blk_drewN ?_ _ | refine blk_drew ?_ | refine blk_alloc ?_ _)); refine blk_put (cs := #[.string ((rd_T41 l0 x12_1).f0), .string (⟨#[]⟩ : ByteArray)]) ?_ 1 _ rfl; (with_reducible repeat (first | refine blk_drewN ?_ _ | refine blk_drew ?_ | refine blk_alloc ?_ _)); refine blk_put (cs := #[.string (⟨#[]⟩ : ByteArray), .string (⟨#[]⟩ : ByteArray)]) ?_ 0 _ rfl; (with_reducible repeat (first | refine blk_drewN ?_ _ | refine blk_drew ?_ | refine blk_alloc ?_ _)); exact BK121.out) hb); have n1_ := Aside0.mk (below_step (by repeat (first | (with_reducible first | exact HB.out | apply below_alloc | apply pw_below_drewN | apply below_drew1 | refine below_set ?_ GE121.out) | exact HB.out)) hb); clear BK121; clear HB; have BK121 := n0_; have HB := n1_; clear n0_ n1_; (try clear hb); (try clear hb2); (try clear hk); (try clear hi)))
                    go_roundg k1
                    case measure => have := HK1.out; omega
                    case rel => exact ⟨(t122), (wrap64 (x12_1 + 1)), (by first | rfl | (simp; done) | (simp [*]; done)), (by first | rfl | (simp; done) | (simp [*]; done)), H', ⟨by have := HK1.out; omega⟩, ⟨by repeat (first | (with_reducible first | exact HB.out | apply below_alloc | apply pw_below_drewN | apply below_drew1 | refine below_set ?_ GE121.out) | exact HB.out)⟩⟩
                  · rw [if_neg c10] at H
                    exact absurd H (by simp)
                · rw [if_neg c9] at H
                  exact absurd H (by simp)
              · rw [if_neg c8] at H
                exact absurd H (by simp)
            · rw [if_neg c7] at H
              exact absurd H (by simp)
          · rw [if_neg c6] at H
            exact absurd H (by simp)
        · rw [if_neg c5] at H
          have c5b0 : decide (x12_1 < (l0.length : Int)) = false := decide_eq_false c5
          clear c5
          replace H := Option.bind_eq_some_iff.mp H
          obtain ⟨t123, A150, H⟩ := H
          replace H : (some (t123, 0)) = some (r1, r2) := H
          have A15 := Aside0.mk A150
          clear A150
          simp only [Option.some.injEq, Prod.mk.injEq] at H
          obtain ⟨rfl, rfl⟩ := H
          go_wp2_with (first | ((with_reducible refine gate_callee (f := 7) rfl ?_); refine goesL_ (some 27) rfl rfl Tryd.func7 (by kernel_rfl) rfl #[.int .u64 x4_1] rfl (by (try simp only [List.map_toArray, List.map_cons, List.map_nil]); first | done | rfl | (simp only [List.length_drop, List.length_take]; rfl)) ?_; (with_reducible refine (finger_Hex.calls x4_1 t123 _ ?side1 A15.out).mono ?_); (case side1 => exact gok_below HG.out (by repeat (first | (with_reducible first | exact HB.out | apply below_alloc | apply pw_below_drewN | apply below_drew1) | exact HB.out))); rintro e w16 ⟨rfl, hb⟩; refine ⟨_, rfl, ?_⟩; have n0_ := Aside0.mk (below_step (by repeat (first | (with_reducible first | exact HB.out | apply below_alloc | apply pw_below_drewN | apply below_drew1) | exact HB.out)) hb); clear HB; have HB := n0_; clear n0_; (try clear hb); (try clear hb2); (try clear hk); (try clear hi)))
          go_ret2
          exact ⟨by first | rfl | (simp [errW_none, errW_some] <;> rfl) | (simp [*, errW_none, errW_some] <;> rfl), by repeat (first | (with_reducible first | exact HB.out | apply below_alloc | apply pw_below_drewN | apply below_drew1) | exact HB.out)⟩
  · replace c3 := Bool.eq_false_iff.mpr c3
    subst c3
    have H1 : (some ((⟨#[]⟩ : ByteArray), 1)) = some (r1, r2) := by rw [if_neg (show ¬ (false = true) by decide)] at H; exact H
    clear H
    have H := H1
    clear H1
    simp only [Option.some.injEq, Prod.mk.injEq] at H
    obtain ⟨rfl, rfl⟩ := H
    go_enter Tryd.func9, Tryd.ntmps9
    go_wp2_with (first | ((with_reducible refine gate_callee (f := 17) rfl ?_); refine goesL_ (some 8) rfl rfl Tryd.func17 (by kernel_rfl) rfl #[.slice A0 l0.length c0] rfl (by (try simp only [List.map_toArray, List.map_cons, List.map_nil]); first | done | rfl | (simp only [List.length_drop, List.length_take]; rfl)) ?_; (with_reducible refine (label_Right.calls _ _ l0 false _ ?side1 ?side2 A2.out).mono ?_); (case side1 => repeat (first | exact HR0.out | (with_reducible refine Kd.C_alloc ?_ _) | (with_reducible refine Kd.C_drewN ?_ _) | (with_reducible refine Kd.C_drew ?_))); (case side2 => exact HC0.out); rintro e w17 ⟨rfl, hb⟩; refine ⟨_, rfl, ?_⟩; have n0_ := Aside0.mk (below_step (by repeat (first | (with_reducible first | exact HB.out | apply below_alloc | apply pw_below_drewN | apply below_drew1) | exact HB.out)) hb); clear HB; have HB := n0_; clear n0_; (try clear hb); (try clear hb2); (try clear hk); (try clear hi)))
    go_ret2
    exact ⟨by first | rfl | (simp [errW_none, errW_some] <;> rfl) | (simp [*, errW_none, errW_some] <;> rfl), by repeat (first | (with_reducible first | exact HB.out | apply below_alloc | apply pw_below_drewN | apply below_drew1) | exact HB.out)⟩

/-! ### foghornref11_More: function 10 -/
def foghornref11_More.l0 : Nat → Int → ByteArray → Int → Option (Int)
  | 0, _, _, _ => none
  | k + 1, x0, x1, x5 => if x5 < (x1.size : Int) then (if 0 ≤ x5 then (foghornref11_More.l0 k (IntKind.u64.wrap ((Go.bits .xor .u64 x0 (IntKind.u64.wrap (bt x1 x5))) * 1099511628211)) x1 (wrap64 (x5 + 1))) else (none)) else (some x0)
def foghornref11_More.f (k : Nat) (a0 : Int) (a1 : ByteArray) : Option (Int) := foghornref11_More.l0 k a0 a1 0
theorem foghornref11_More.mono_l : ∀ k, (∀ y0 y1 y2, LeO (foghornref11_More.l0 k y0 y1 y2) (foghornref11_More.l0 (k + 1) y0 y1 y2))
  | 0 => fun _ _ _ r h => by simp [foghornref11_More.l0] at h
  | k + 1 => by
    have ih0 := foghornref11_More.mono_l k
    · intro y0 y1 y2
      unfold foghornref11_More.l0
      repeat' first
      | (with_reducible exact ih0 _ _ _)
      | (with_reducible exact LeO.refl _)
      | (with_reducible exact LeO.none _)
      | (with_reducible refine LeO.ite ?_ ?_)
      | (with_reducible refine LeO.bind ?_ (fun _ => ?_))
      | exact ih0 _ _ _
      | exact LeO.none _
      | refine LeO.ite ?_ ?_
      | refine LeO.bind ?_ (fun _ => ?_)
theorem foghornref11_More.mono : ∀ a0 a1 k, LeO (foghornref11_More.f k a0 a1) (foghornref11_More.f (k + 1) a0 a1) := by
  intro a0 a1 k
  have ih0 := foghornref11_More.mono_l k
  unfold foghornref11_More.f
  repeat' first
      | (with_reducible exact ih0 _ _ _)
      | (with_reducible exact LeO.refl _)
      | (with_reducible exact LeO.none _)
      | (with_reducible refine LeO.ite ?_ ?_)
      | (with_reducible refine LeO.bind ?_ (fun _ => ?_))
      | exact ih0 _ _ _
      | exact LeO.none _
      | refine LeO.ite ?_ ?_
      | refine LeO.bind ?_ (fun _ => ?_)
set_option maxHeartbeats 8000000 in
set_option maxRecDepth 100000 in
theorem foghornref11_More.calls (k : Nat) (a0 : Int) (a1 : ByteArray) (r : Int) (w : World) (h : foghornref11_More.f k a0 a1 = some r) :
    Calls Tryd.prog 10 #[.int .u64 a0, .string a1] w fun e w' => e = .returned (.int .u64 r) ∧ Drawn0 w w' := by
  have H : (foghornref11_More.l0 k a0 a1 0) = some r := h
  clear h
  have H' := Aside0.mk H
  clear H
  go_enter Tryd.func10, Tryd.ntmps10
  go_wp2
  go_loopg [0, 5] k (fun kq v0 v5 w' => ∃ (x0_1 : Int) (x5_1 : Int), v0 = .int .u64 x0_1 ∧ v5 = .int .i64 x5_1 ∧ Aside0 (foghornref11_More.l0 kq x0_1 a1 x5_1 = some r) ∧ Aside0 (kq ≤ k) ∧ Drawn0 w w')
  case atStart => exact ⟨(a0), (0), (by first | rfl | (simp; done) | (simp [*]; done)), (by first | rfl | (simp; done) | (simp [*]; done)), H', ⟨Nat.le_refl _⟩, by repeat (first | exact Drawn0.refl _ | apply Drawn0.step)⟩
  case round =>
    clear H'
    try clear c1
    try clear p2
    obtain ⟨x0_1, x5_1, rfl, rfl, HA, HK1, ⟨m1, rfl⟩⟩ := hrel
    cases gk with
    | zero => exact absurd HA.out (by simp [foghornref11_More.l0])
    | succ k1 =>
      have H := HA.out
      clear HA
      simp only [foghornref11_More.l0] at H
      by_cases c3 : x5_1 < (a1.size : Int)
      · rw [if_pos c3] at H
        have c3b0 : decide (x5_1 < (a1.size : Int)) = true := decide_eq_true c3
        clear c3
        by_cases c4 : 0 ≤ x5_1
        · rw [if_pos c4] at H
          have c4b0 : decide (0 ≤ x5_1) = true := decide_eq_true c4
          clear c4
          have H' := Aside0.mk H
          clear H
          have p5 : 0 ≤ (x5_1 : Int) := of_decide_eq_true (by first | (with_reducible assumption) | assumption)
          have q5 : x5_1 < (a1.size : Int) := of_decide_eq_true (by first | (with_reducible assumption) | assumption)
          have hx5 := bt_at a1 x5_1
          replace p5 := eq_true p5
          replace q5 := eq_true q5
          go_wp2
          go_roundg k1
          case measure => have := HK1.out; omega
          case rel => exact ⟨(IntKind.u64.wrap ((Go.bits .xor .u64 x0_1 (IntKind.u64.wrap (bt a1 x5_1))) * 1099511628211)), (wrap64 (x5_1 + 1)), (by first | rfl | (simp; done) | (simp [*]; done)), (by first | rfl | (simp; done) | (simp [*]; done)), H', ⟨by have := HK1.out; omega⟩, by repeat (first | exact Drawn0.refl _ | apply Drawn0.step)⟩
        · rw [if_neg c4] at H
          exact absurd H (by simp)
      · rw [if_neg c3] at H
        have c3b0 : decide (x5_1 < (a1.size : Int)) = false := decide_eq_false c3
        clear c3
        obtain rfl := Option.some.inj H
        go_wp2
        go_ret
        exact ⟨by first | rfl | (simp; done) | (simp [*]; done), by repeat (first | exact Drawn0.refl _ | apply Drawn0.step)⟩

/-! ### foghornref11_Hex: function 11 -/
def foghornref11_Hex.l0 : Nat → Int → ByteArray → Int → Option (ByteArray)
  | 0, _, _, _ => none
  | k + 1, x0, x3, x4 => if x4 < 16 then (if 0 ≤ (wrap64 (Int.tmod x0 16)) then (if (wrap64 (Int.tmod x0 16)) ≤ (wrap64 ((wrap64 (Int.tmod x0 16)) + 1)) then (if (wrap64 ((wrap64 (Int.tmod x0 16)) + 1)) ≤ 16 then (if ((⟨#[48, 49, 50, 51, 52, 53, 54, 55, 56, 57, 97, 98, 99, 100, 101, 102]⟩ : ByteArray).extract ((wrap64 (Int.tmod x0 16)) : Int).toNat ((wrap64 ((wrap64 (Int.tmod x0 16)) + 1)) : Int).toNat).size + x3.size ≤ 9223372036854775807 then (foghornref11_Hex.l0 k (IntKind.u64.wrap (Int.tdiv x0 16)) (((⟨#[48, 49, 50, 51, 52, 53, 54, 55, 56, 57, 97, 98, 99, 100, 101, 102]⟩ : ByteArray).extract ((wrap64 (Int.tmod x0 16)) : Int).toNat ((wrap64 ((wrap64 (Int.tmod x0 16)) + 1)) : Int).toNat) ++ x3) (wrap64 (x4 + 1))) else (none)) else (none)) else (none)) else (none)) else (some x3)
def foghornref11_Hex.f (k : Nat) (a0 : Int) : Option (ByteArray) := foghornref11_Hex.l0 k a0 (⟨#[]⟩ : ByteArray) 0
theorem foghornref11_Hex.mono_l : ∀ k, (∀ y0 y1 y2, LeO (foghornref11_Hex.l0 k y0 y1 y2) (foghornref11_Hex.l0 (k + 1) y0 y1 y2))
  | 0 => fun _ _ _ r h => by simp [foghornref11_Hex.l0] at h
  | k + 1 => by
    have ih0 := foghornref11_Hex.mono_l k
    · intro y0 y1 y2
      unfold foghornref11_Hex.l0
      repeat' first
      | (with_reducible exact ih0 _ _ _)
      | (with_reducible exact LeO.refl _)
      | (with_reducible exact LeO.none _)
      | (with_reducible refine LeO.ite ?_ ?_)
      | (with_reducible refine LeO.bind ?_ (fun _ => ?_))
      | exact ih0 _ _ _
      | exact LeO.none _
      | refine LeO.ite ?_ ?_
      | refine LeO.bind ?_ (fun _ => ?_)
theorem foghornref11_Hex.mono : ∀ a0 k, LeO (foghornref11_Hex.f k a0) (foghornref11_Hex.f (k + 1) a0) := by
  intro a0 k
  have ih0 := foghornref11_Hex.mono_l k
  unfold foghornref11_Hex.f
  repeat' first
      | (with_reducible exact ih0 _ _ _)
      | (with_reducible exact LeO.refl _)
      | (with_reducible exact LeO.none _)
      | (with_reducible refine LeO.ite ?_ ?_)
      | (with_reducible refine LeO.bind ?_ (fun _ => ?_))
      | exact ih0 _ _ _
      | exact LeO.none _
      | refine LeO.ite ?_ ?_
      | refine LeO.bind ?_ (fun _ => ?_)
set_option maxHeartbeats 8000000 in
set_option maxRecDepth 100000 in
theorem foghornref11_Hex.calls (k : Nat) (a0 : Int) (r : ByteArray) (w : World) (h : foghornref11_Hex.f k a0 = some r) :
    Calls Tryd.prog 11 #[.int .u64 a0] w fun e w' => e = .returned (.string r) ∧ Drawn0 w w' := by
  have H : (foghornref11_Hex.l0 k a0 (⟨#[]⟩ : ByteArray) 0) = some r := h
  clear h
  have H' := Aside0.mk H
  clear H
  go_enter Tryd.func11, Tryd.ntmps11
  go_wp2
  go_loopg [0, 3, 4] k (fun kq v0 v3 v4 w' => ∃ (x0_1 : Int) (x3_1 : ByteArray) (x4_1 : Int), v0 = .int .u64 x0_1 ∧ v3 = .string x3_1 ∧ v4 = .int .i64 x4_1 ∧ Aside0 (foghornref11_Hex.l0 kq x0_1 x3_1 x4_1 = some r) ∧ Aside0 (kq ≤ k) ∧ Drawn0 w w')
  case atStart => exact ⟨(a0), ((⟨#[]⟩ : ByteArray)), (0), (by first | rfl | (simp; done) | (simp [*]; done)), (by first | rfl | (simp; done) | (simp [*]; done)), (by first | rfl | (simp; done) | (simp [*]; done)), H', ⟨Nat.le_refl _⟩, by repeat (first | exact Drawn0.refl _ | apply Drawn0.step)⟩
  case round =>
    clear H'
    try clear c1
    obtain ⟨x0_1, x3_1, x4_1, rfl, rfl, rfl, HA, HK1, ⟨m1, rfl⟩⟩ := hrel
    cases gk with
    | zero => exact absurd HA.out (by simp [foghornref11_Hex.l0])
    | succ k1 =>
      have H := HA.out
      clear HA
      simp only [foghornref11_Hex.l0] at H
      by_cases c2 : x4_1 < 16
      · rw [if_pos c2] at H
        have c2b0 : decide (x4_1 < 16) = true := decide_eq_true c2
        clear c2
        obtain ⟨ji3, hji3⟩ : ∃ j_ : Int, (wrap64 (Int.tmod x0_1 16)) = j_ := ⟨_, rfl⟩
        replace H : (if 0 ≤ (ji3) then (if (ji3) ≤ (wrap64 ((ji3) + 1)) then (if (wrap64 ((ji3) + 1)) ≤ 16 then (if ((⟨#[48, 49, 50, 51, 52, 53, 54, 55, 56, 57, 97, 98, 99, 100, 101, 102]⟩ : ByteArray).extract ((ji3) : Int).toNat ((wrap64 ((ji3) + 1)) : Int).toNat).size + x3_1.size ≤ 9223372036854775807 then (foghornref11_Hex.l0 k1 (IntKind.u64.wrap (Int.tdiv x0_1 16)) (((⟨#[48, 49, 50, 51, 52, 53, 54, 55, 56, 57, 97, 98, 99, 100, 101, 102]⟩ : ByteArray).extract ((ji3) : Int).toNat ((wrap64 ((ji3) + 1)) : Int).toNat) ++ x3_1) (wrap64 (x4_1 + 1))) else (none)) else (none)) else (none)) else (none)) = some r := by first | (rw [hji3] at H; exact H) | (simp only [hji3] at H ⊢; exact H)
        have hji3w : (IntKind.i64.wrap (Int.tmod x0_1 16)) = ji3 := (i64_w _).trans hji3
        by_cases c4 : 0 ≤ (ji3)
        · rw [if_pos c4] at H
          have c4b0 := eq_true c4
          have c4b1 : decide (0 ≤ (ji3)) = true := decide_eq_true c4
          clear c4
          by_cases c5 : (ji3) ≤ (wrap64 ((ji3) + 1))
          · rw [if_pos c5] at H
            have c5b0 := eq_true c5
            have c5b1 : decide ((ji3) ≤ (wrap64 ((ji3) + 1))) = true := decide_eq_true c5
            by_cases c6 : (wrap64 ((ji3) + 1)) ≤ 16
            · rw [if_pos c6] at H
              have c6b0 := eq_true c6
              have c6b1 : decide ((wrap64 ((ji3) + 1)) ≤ 16) = true := decide_eq_true c6
              by_cases c7 : ((⟨#[48, 49, 50, 51, 52, 53, 54, 55, 56, 57, 97, 98, 99, 100, 101, 102]⟩ : ByteArray).extract ((ji3) : Int).toNat ((wrap64 ((ji3) + 1)) : Int).toNat).size + x3_1.size ≤ 9223372036854775807
              · rw [if_pos c7] at H
                have c7b0 := eq_true c7
                have c7b1 : decide (((⟨#[48, 49, 50, 51, 52, 53, 54, 55, 56, 57, 97, 98, 99, 100, 101, 102]⟩ : ByteArray).extract ((ji3) : Int).toNat ((wrap64 ((ji3) + 1)) : Int).toNat).size + x3_1.size ≤ 9223372036854775807) = true := decide_eq_true c7
                try have c7b2 : (9223372036854775807 < ((⟨#[48, 49, 50, 51, 52, 53, 54, 55, 56, 57, 97, 98, 99, 100, 101, 102]⟩ : ByteArray).extract ((ji3) : Int).toNat ((wrap64 ((ji3) + 1)) : Int).toNat).size + x3_1.size) = False := eq_false (Nat.not_lt.2 c7)
                have H' := Aside0.mk H
                clear H
                go_wp2
                go_roundg k1
                case measure => have := HK1.out; omega
                case rel => exact ⟨(IntKind.u64.wrap (Int.tdiv x0_1 16)), (((⟨#[48, 49, 50, 51, 52, 53, 54, 55, 56, 57, 97, 98, 99, 100, 101, 102]⟩ : ByteArray).extract ((ji3) : Int).toNat ((wrap64 ((ji3) + 1)) : Int).toNat) ++ x3_1), (wrap64 (x4_1 + 1)), (by first | rfl | (simp; done) | (simp [*]; done)), (by first | rfl | (simp; done) | (simp only [← hji3] <;> (first | rfl | simp)) | (simp [*]; done)), (by first | rfl | (simp; done) | (simp [*]; done)), H', ⟨by have := HK1.out; omega⟩, by repeat (first | exact Drawn0.refl _ | apply Drawn0.step)⟩
              · rw [if_neg c7] at H
                exact absurd H (by simp)
            · rw [if_neg c6] at H
              exact absurd H (by simp)
          · rw [if_neg c5] at H
            exact absurd H (by simp)
        · rw [if_neg c4] at H
          exact absurd H (by simp)
      · rw [if_neg c2] at H
        have c2b0 : decide (x4_1 < 16) = false := decide_eq_false c2
        clear c2
        obtain rfl := Option.some.inj H
        go_wp2
        go_ret
        exact ⟨by first | rfl | (simp; done) | (simp [*]; done), by repeat (first | exact Drawn0.refl _ | apply Drawn0.step)⟩


-- by hand: foghornref10_Right

end Go.Proofs.YtndgollcganhmaaDoorQ.P
