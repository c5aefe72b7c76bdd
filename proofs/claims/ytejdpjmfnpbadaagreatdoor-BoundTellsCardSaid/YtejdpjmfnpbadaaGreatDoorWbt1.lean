/- Part 1 of a proof: contracts and plain laws of what the statement reaches. No condition. -/
import Derived.Below
import Derived.Deep.Draws
import Derived.Deep.AppendLies
import Derived.Maps.AppendAt
import Derived.OwnWalk
import Derived.Laws.BytesArg
import Derived.Laws.MakeOwn
import Derived.Laws.OwnMore
import Derived.Deep.OwnRows
import Derived.Tactics
import Derived.Lib.ConvBytes
import Derived.Laws.Slices
import Derived.WalkKit
import Derived.KernelRfl
import Derived.RowKit3
import Derived.Deep.LoopGhost
import Derived.Deep.QuietTactic
import Derived.BigQuiet
import Derived.WideLaws
import Derived.Deep.DeepCutAuto
import Derived.Deep.CutBlock
import Derived.Deep.RegionHeld3
import Derived.Laws.Rows
import Derived.Lib.AppendStr
import Derived.ArgAppend
import Derived.Laws.IdiomCopy
import Derived.RowKit
import Derived.OrdersHeld
import Derived.Laws.BitsLemmas
import Derived.Test.YtejdpjmfnpbadaaGreatDoorProg
import Derived.Lib.LaidTab
import Derived.Lib.AppendIntMem
import Derived.Laws.StructEq
import Derived.Lib.Hide
import Derived.Lib.Strings
import Derived.Laws.CopyOwn
import Derived.Lib.UnsafeStr
import Derived.Lib.Repeat
import Derived.Lib.Split
import Derived.Lib.Join
import Derived.Lib.IndexAny
import Derived.Lib.AtoiAll
import Derived.Lib.ItoaNum
import Derived.Test.YtejdpjmfnpbadaaGreatDoorChecked
import Derived.LoopTactic
import Derived.Outline
import Derived.Laws.RangeAny
import Derived.Shelf.Abstract
import Derived.WalkLawsBesides
import Derived.WalkSpells
import Derived.Maps.OwnOps
import Derived.Carry
import Derived.ProofKit
import Derived.OpenShut
import Derived.SliceStrings
import Derived.Shelf.SlSortCmp.SmallK
import Derived.Shelf.Strings.Builder1
import Derived.Shelf.Strings.Builder2
import Derived.Shelf.Small.Utf8
import Derived.Shelf.Small.Bits
import Derived.Shelf.Small.Strs
import Derived.Shelf.Small.Wraps
import Derived.Shelf.Strings.BuilderF
import Derived.Shelf.Strings.BuilderK
import Derived.Shelf.Utf8.RuneCount
import Derived.Shelf.Strings.Builder2Cap
import Derived.Shelf.Strconv.Atoi
import Derived.Shelf.Strconv.Itoa0
import Derived.Shelf.Strconv.Itoa1
import Derived.Shelf.LaysM
import Derived.Shelf.Strconv.Itoa2
import Derived.Shelf.Strconv.Itoa3
import Derived.Shelf.Strconv.AtoiErrFast
import Derived.Shelf.Strconv.ParseIntEmpty
import Derived.Shelf.Strconv.AtoiFail
import Derived.Shelf.Strconv.Clone
import Derived.Shelf.Strconv.SyntaxError
import Derived.Shelf.LaysC
import Derived.Shelf.Strconv.ToError
import Derived.Shelf.Strconv.AtoiErr
import Derived.Shelf.Strconv.ErrVar
import Derived.Shelf.Strconv.Lower
import Derived.Shelf.Strconv.ParseUint10
import Derived.Shelf.Strconv.ParseUint10Empty
import Derived.Shelf.Strconv.ParseUint10Any
import Derived.Shelf.Strconv.ParseInt10
import Derived.Shelf.Strconv.AtoiLong
import Derived.Shelf.Strconv.AtoiInnerAll
import Derived.Shelf.Strconv.RangeError
import Derived.Shelf.Strconv.ToErrorRange
import Derived.Shelf.Strconv.AtoiAll
import Derived.Shelf.Strconv.ErrVarAll
import Derived.Shelf.Strconv.ParseUintEmpty
import Derived.Shelf.Strconv.ParseUint10b64
import Derived.Shelf.Strconv.ParseUint10b32
import Derived.Shelf.Strconv.ParseUint10b16
import Derived.Shelf.Strconv.ParseUint10b8
import Derived.Shelf.Strconv.ParseUint10At
import Derived.Shelf.Strconv.ParseInt10At64
import Derived.Shelf.Strconv.ParseInt10At32
import Derived.Shelf.Strconv.ParseInt10At16
import Derived.Shelf.Strconv.ParseInt10At8
import Derived.Shelf.Strconv.ParseInt10All
import Derived.Shelf.Strings.Search1
import Derived.Shelf.Strings.Search2
import Derived.Shelf.Strings.Search3
import Derived.Shelf.Strings.Count
import Derived.Shelf.Strings.Shaped
import Derived.Shelf.Strings.Prefix
import Derived.Shelf.Strings.Split
import Derived.Shelf.Strings.SplitShaped
import Derived.Shelf.Unicode.Decode
import Derived.Shelf.Strings.Runes
import Derived.Shelf.Strings.RuneCount
import Derived.Shelf.Strings.IndexAny
import Derived.Shelf.Strings.AsciiSet
import Derived.Shelf.Strings.IndexAnyAll
import Derived.Shelf.Strings.Explode
import Derived.Shelf.Bits.Mul64
import Derived.Shelf.Strings.Repeat
import Derived.Shelf.Unicode.DecodeSlow
import Derived.Shelf.Unicode.DecodeAny
import Derived.Shelf.Strings.BuilderCap
import Derived.Shelf.Slices.Turned
import Derived.Ground.Names2Prog
import Derived.Shelf.Slices.SearchI
import Derived.Lib.AtoiErrMem
import Derived.Laws.Runes
import Derived.WalkMore
import Derived.LoopN
import Derived.Maps.Views
import Derived.Test.YtejdpjmfnpbadaaGreatDoorWbr4
set_option linter.unusedVariables false
set_option linter.unusedSimpArgs false
namespace Go.Proofs.YtejdpjmfnpbadaaGreatDoorW.PrintWords
open Go.RowKit
def rd (xs : List Int) (i : Int) : Int := xs.getD i.toNat 0
theorem ReadsInt.at_ {w : World} {k : IntKind} {A : Option Addr} {n : Nat} {xs : List Int} (h : ReadsInt w k A n xs) (i : Int) (h0 : 0 ≤ i) (h1 : i < n) : ∃ ad, A = some ad ∧ w.cell? (ad.add i.toNat) = some (.int k (rd xs i)) := by
  obtain ⟨ad, e, hc⟩ := h.2.2 (by omega)
  exact ⟨ad, e, hc _ (by omega)⟩
section
variable {P : Program} {ops : Array Oper} {rest : List Oper} {o : Oper} {a : Act} {Q : Exit → Act → World → Prop}
end
section
variable {P : Program}
end
section
variable {P : Program} {ops : Array Oper} {rest : List Oper} {o : Oper} {a : Act} {Q : Exit → Act → World → Prop}
end
section
variable {P : Program} {ops : Array Oper} {rest : List Oper} {o : Oper} {a : Act} {Q : Exit → Act → World → Prop}
end
section
variable {P : Program} {ops : Array Oper} {o : Oper} {a : Act} {Q : Exit → Act → World → Prop} {K : Act → World → Prop}
end
section
variable {α : Type} {enc : α → Value} {d : α}
def rdOf (d : α) (xs : List α) (i : Int) : α := xs.getD i.toNat d
theorem ReadsOf.at_ {w : World} {A : Option Addr} {n : Nat} {xs : List α} (h : ReadsOf enc d w A n xs) (i : Int) (h0 : 0 ≤ i) (h1 : i < n) : ∃ ad, A = some ad ∧ w.cell? (ad.add i.toNat) = some (enc (rdOf d xs i)) := by
  obtain ⟨ad, e, hc⟩ := h.2.2 (by omega)
  exact ⟨ad, e, hc _ (by omega)⟩
end
section
variable {α : Type} {P : Program} {ops : Array Oper} {rest : List Oper} {o : Oper} {a : Act} {Q : Exit → Act → World → Prop}
end
section
variable {P : Program}
end
section
variable {α : Type} {R R' : α → List Value → Prop} {e : TypeId} {size : Nat} {w w1 : World} {base : Nat} {v : Value} {ps : List α}
end
section
variable {P : Program} {ops : Array Oper} {rest : List Oper} {o : Oper} {a : Act} {Q : Exit → Act → World → Prop} {α : Type} {R : α → List Value → Prop}
end
section
variable {P : Program} {ops : Array Oper} {o : Oper} {a : Act} {Q : Exit → Act → World → Prop} {K : Act → World → Prop} {α : Type} {R : α → List Value → Prop}
end
section
variable {α : Type} {P : Program}
theorem print_take_of (enc : α → Value) (d : α) (t e : TypeId) (kl : IntKind) {i : TypeInfo} (ht : P.underlying t = some (.slice e)) (hi : P.info? e = some i) (hsz : i.size = 1) (A : Option Addr) (c : Nat) (xs : List α) (j : Int) (h0 : 0 ≤ j) (hm : j ≤ xs.length) (hc : xs.length ≤ c) :
    (∀ W : World, (Instr.slice t (.slice A xs.length c) none (some (.int kl j)) none).run P W = .ok (.slice A (xs.take j.toNat).length c) W) ∧
      (∀ w : World, ReadsOf enc d w A xs.length xs → ReadsOf enc d w A (xs.take j.toNat).length (xs.take j.toNat)) ∧ (xs.take j.toNat).length ≤ c := by
  have hl : (xs.take j.toNat).length = j.toNat := by rw [List.length_take]; omega
  refine ⟨fun W => ?_, fun w h => by rw [hl]; exact h.take_ j.toNat (by omega), by rw [hl]; omega⟩
  have hel : P.elem t = e := by simp [Program.elem, ht]
  have hu : P.underlying t = some (.slice (P.elem t)) := by rw [hel]; exact ht
  have ha : (A.map fun x => x.add 0) = A := by cases A <;> simp [Addr.add]
  rw [run_slice_h W t A xs.length c hu kl j h0 (by omega), hel, hl]
  simp [sizeOf, typeInfo, hi, hsz, sliced, Result.andThen, ha]
end
section
variable {P : Program} {ops : Array Oper} {rest : List Oper} {o : Oper} {a : Act} {Q : Exit → Act → World → Prop}
end
namespace Kd
section
variable {α : Type} {d : Kd α} {e : Nat} {w w1 : World} {base : Nat} {ok ok' : Nat → Prop} {v : Value} {xs : List α}
end
section
variable {P : Program} {ops : Array Oper} {rest : List Oper} {o : Oper} {a : Act} {Q : Exit → Act → World → Prop} {α : Type}
end
section
variable {P : Program} {ops : Array Oper} {o : Oper} {a : Act} {Q : Exit → Act → World → Prop} {Kc : Act → World → Prop} {α : Type}
end
end Kd
namespace Kd
section
variable {α : Type} {F : Kd α → Kd α} {sz : Nat} {E : List Nat} {hs : ∀ n, (upto F sz E n).sz = sz} {hE : ∀ n q, q ∈ (upto F sz E n).E → q ∈ E}
end
end Kd
namespace Kd
end Kd
namespace Kd
section
variable {α β : Type} {d : Kd α} {d' : Kd β} {e e' : Nat} {w w1 W : World} {base b b' : Nat} {ok ok' okv oku : Nat → Prop} {v u : Value} {xs : List α} {ys : List β}
end
section
variable {w W : World} {A : Option Addr} {n : Nat}
theorem at_int {k : IntKind} {xs : List Int} (h : (Kd.int k).C w A n xs) (i : Int) (h0 : 0 ≤ i) (h1 : i < n) : ∃ ad, A = some ad ∧ w.cell? (ad.add i.toNat) = some (.int k (rd xs i)) :=
  ReadsOf.at_ (reads_of_C (enc := Value.int k) (d := (0 : Int)) (h1 := fun _ => rfl) h) i h0 h1
variable {α : Type} {enc : α → Value} {h1 : ∀ x, (enc x).oneCell' = true} {e base g cap : Nat} {ok : Nat → Prop} {xs : List α}
end
section
variable {P : Program} {ops : Array Oper} {rest : List Oper} {o : Oper} {a : Act} {Q : Exit → Act → World → Prop}
variable {α : Type}
end
end Kd
section
variable {P : Program}
end
section
variable {w w1 : World} {base n size : Nat} {e : TypeId} {v : Value} {xs : List Value}
end
section
variable {P : Program}
end
namespace Kd
section
variable {α : Type} {d : Kd α} {e : Nat} {w w1 W : World} {base : Nat} {ok ok' : Nat → Prop} {v : Value} {xs : List α}
end
section
variable {P : Program} {ops : Array Oper} {rest : List Oper} {o : Oper} {a : Act} {Q' : Exit → Act → World → Prop} {Kc : Act → World → Prop} {α : Type}
end
end Kd
namespace Kd
section
variable {α : Type} {d : Kd α} {e e' : Nat} {w w1 W : World} {base : Nat} {ok : Nat → Prop} {u v : Value} {xs : List α}
end
end Kd
namespace Kd
section
variable {α : Type} {d : Kd α} {e base g n cap : Nat} {ok okp : Nat → Prop} {W : World} {xs : List α}
end
end Kd
namespace Kd
section
variable {α : Type} {F : Kd α → Kd α} {sz : Nat} {E : List Nat} {hs : ∀ n, (upto F sz E n).sz = sz} {hE : ∀ n q, q ∈ (upto F sz E n).E → q ∈ E}
end
end Kd
namespace Kd
section
variable {P : Program} {ops : Array Oper} {rest : List Oper} {o : Oper} {a : Act} {Q : Exit → Act → World → Prop} {α : Type}
end
end Kd
namespace Kd
section
variable {P : Program} {ops : Array Oper} {rest : List Oper} {o : Oper} {a : Act} {Q : Exit → Act → World → Prop} {α : Type}
end
end Kd
namespace Kd
section
variable {α : Type} {k : Kd α} {w : World} {A : Option Addr} {xs : List α} {m c : Nat}
end
end Kd
section
variable {P : Program}
end
namespace Kd
section
variable {α β : Type} {d : Kd α} {d' : Kd β} {e e' base base' n : Nat} {ok ok' : Nat → Prop} {w W w1 W1 : World} {v u : Value} {xs : List α} {ys : List β} {A : Option Addr} {c : Nat}
end
section
variable {α : Type} {enc : α → Value} {h1 : ∀ x, (enc x).oneCell' = true} {w W : World} {A : Option Addr} {n g : Nat} {xs : List α}
end
end Kd
namespace Kd
section
variable {α : Type} {d : Kd α} {e base g : Nat} {ok : Nat → Prop} {w w1 : World} {v : Value} {xs : List α} {o : Obj}
end
end Kd
section
variable {P : Program} {ops : Array Oper} {rest : List Oper} {o : Oper} {a : Act} {Q : Exit → Act → World → Prop}
end
namespace Kd
section
variable {α : Type} {enc : α → Value} {h1 : ∀ x, (enc x).oneCell' = true} {e base g n cap : Nat} {ok : Nat → Prop} {W : World} {xs : List α}
end
end Kd
section
variable {P : Program} {ops : Array Oper} {rest : List Oper} {o : Oper} {a : Act} {Q : Exit → Act → World → Prop}
end
namespace Kd
section
variable {α : Type} {enc : α → Value} {h1 : ∀ x, (enc x).oneCell' = true} {e base g n cap : Nat} {ok : Nat → Prop} {W : World} {xs : List α}
end
end Kd
section
variable {P : Program} {ops : Array Oper} {rest : List Oper} {o : Oper} {a : Act} {Q : Exit → Act → World → Prop} {W : World}
end
section
variable {P : Program} {ops : Array Oper} {o : Oper} {a : Act} {Q : Exit → Act → World → Prop} {Kc : Act → World → Prop}
namespace Kd
variable {α : Type}
end Kd
end
section
variable {P : Program} {tmps : Array Value} {w : World}
end
namespace Kd
section
variable {P : Program} {α : Type}
end
section
variable {P : Program} {ops : Array Oper} {rest : List Oper} {o : Oper} {a : Act} {Q : Exit → Act → World → Prop} {Kc : Act → World → Prop} {α : Type}
end
end Kd
end Go.Proofs.YtejdpjmfnpbadaaGreatDoorW.PrintWords
namespace Go.Proofs.YtejdpjmfnpbadaaGreatDoorQ
open Go.RowKit Go.Proofs.YtejdpjmfnpbadaaGreatDoorW.PrintWords Go.Proofs.YtejdpjmfnpbadaaGreatDoorW.PrintLast Go.Proofs.YtejdpjmfnpbadaaGreatDoorW.PrintMore
theorem bC2 {w : World} {g : Nat} {t : TypeId} {x0 x1 : Value} (h : w.heap[g]? = some (.cells #[x0, x1] t (0, 0))) : w.cell? ⟨g, 0, none⟩ = some x0 ∧ w.cell? ⟨g, 1, none⟩ = some x1 := ⟨(blk_cell h 0).trans rfl, (blk_cell h 1).trans rfl⟩
theorem bF2 {w : World} {g : Nat} {t : TypeId} {cs : Array Value} (h : w.heap[g]? = some (.cells cs t (0, 0))) : w.frozen? ⟨g, 0, none⟩ = false ∧ w.frozen? ⟨g, 1, none⟩ = false := ⟨blk_frozen h 0, blk_frozen h 1⟩
end Go.Proofs.YtejdpjmfnpbadaaGreatDoorQ
namespace Go.Proofs.YtejdpjmfnpbadaaGreatDoorW.PrintLast
open Go.Proofs.YtejdpjmfnpbadaaGreatDoorW.PrintWords (Aside0)
def closedT (T : List (List Nat × List Nat)) (l : List Bool) : Bool := (List.range T.length).all fun j => !l.getD j false || match T[j]? with
  | some r => r.1.all (fun k => l.getD k false)
  | none => true
def reachT (T : List (List Nat × List Nat)) (i : Nat) : Nat → Nat → Bool
  | 0, _ => false
  | fuel + 1, d => match T[d]? with
    | some r => r.1.any fun j => j == i || reachT T i fuel j
    | none => false
def lastT (T : List (List Nat × List Nat)) (l : List Bool) (ds : List Nat) (i : Nat) : Bool := ds.all fun d => l.getD d true || reachT T i T.length d
section
variable {md : Region.Mode} {ops : Array Oper} {T : Bool × List (List Nat × List Nat)} {l l' li lj lk : Array Bool} {ds : List Nat} {i j k : Nat}
theorem needs_any (o : Oper) (p : Nat → Bool) : o.after.any (fun e => Region.binds md e && p e.on) = (needsOf md o).any p := by
  unfold needsOf
  rw [← Array.any_toList]
  induction o.after.toList with
  | nil => rfl
  | cons e r ih =>
    rw [List.any_cons, ih, List.filter_cons]
    cases h : Region.binds md e <;> simp
theorem closed_eq : Region.closedB md ops l = closedT (rtab md ops).2 l.toList := by
  unfold Region.closedB closedT
  rw [rtab_length]
  congr 1
  funext j
  rw [gd]
  cases h : ops[j]? with
  | none => rw [rtab_none h]
  | some o =>
    rw [rtab_some h]
    simp only
    rw [← needs_all]
    simp only [gd]
theorem reach_eq : ∀ (fuel d : Nat), Region.reachB md ops i fuel d = reachT (rtab md ops).2 i fuel d
  | 0, _ => rfl
  | fuel + 1, d => by
    unfold Region.reachB reachT
    cases h : ops[d]? with
    | none => rw [rtab_none h]
    | some o =>
      rw [rtab_some h]
      simp only
      rw [← needs_any]
      congr 1
      funext e
      rw [reach_eq fuel]
theorem last_eq : Region.lastB md ops l ds i = lastT (rtab md ops).2 l.toList ds i := by
  unfold Region.lastB lastT
  rw [rtab_length]
  congr 1
  funext d
  rw [gd, reach_eq]
def takeT (T : Bool × List (List Nat × List Nat)) (ds : List Nat) (l l' : List Bool) (i : Nat) : Bool := T.1 && freeT T.2 l i && readyAt T.2 l i && closedT T.2 l && lastT T.2 l ds i && (l.set i true == l')
theorem take_of (hT : rtab md ops = T) (h : takeT T ds l.toList l'.toList i = true) : takeB md ops ds l l' i = true := by
  simp only [takeT, Bool.and_eq_true] at h
  obtain ⟨⟨⟨⟨⟨h1, h2⟩, h3⟩, h4⟩, h5⟩, h6⟩ := h
  have h7 := readyAt_mem h3 hT
  have h8 := set_of h6
  subst hT
  simp only [takeB, Bool.and_eq_true]
  exact ⟨⟨⟨⟨⟨h1, by rw [free_eq]; exact h2⟩, h7⟩, by rw [closed_eq]; exact h4⟩, by rw [last_eq]; exact h5⟩, h8⟩
theorem upM_bit {B : List Nat} {d i : Nat} : ∀ {ns : List Nat}, (upM B d ns).testBit i = true → ∃ n ∈ ns, n = i ∨ (n < d ∧ (B.getD n 0).testBit i = true)
  | [], h => by simp [upM] at h
  | n :: r, h => by
    unfold upM at h
    rw [Nat.testBit_or, Nat.testBit_or, Bool.or_eq_true, Bool.or_eq_true] at h
    rcases h with (h | h) | h
    · rw [Nat.testBit_two_pow] at h
      exact ⟨n, List.mem_cons_self, .inl (by simpa using h)⟩
    · by_cases hn : n < d
      · rw [if_pos hn] at h
        exact ⟨n, List.mem_cons_self, .inr ⟨hn, h⟩⟩
      · rw [if_neg hn] at h
        simp at h
    · obtain ⟨m, hm, h2⟩ := upM_bit h
      exact ⟨m, List.mem_cons_of_mem _ hm, h2⟩
theorem reach_bit {T : List (List Nat × List Nat)} {B : List Nat} (hB : waitsOk T B = true) : ∀ (fuel d : Nat), d < fuel → d < T.length → (B.getD d 0).testBit i = true → reachT T i fuel d = true
  | 0, d, h, _, _ => by omega
  | fuel + 1, d, h, hd, hb => by
    have h1 := List.all_eq_true.1 hB d (List.mem_range.2 hd)
    cases hr : T[d]? with
    | none => rw [hr] at h1; simp at h1
    | some r =>
      rw [hr] at h1
      simp only [beq_iff_eq] at h1
      have h2 : (upM B d r.1).testBit i = true := by rw [← h1, Nat.testBit_or, hb, Bool.true_or]
      obtain ⟨n, hn, h3⟩ := upM_bit h2
      unfold reachT
      rw [hr]
      simp only
      rw [List.any_eq_true]
      refine ⟨n, hn, ?_⟩
      rcases h3 with rfl | ⟨h4, h5⟩
      · simp
      · rw [reach_bit hB fuel n (by omega) (by omega) h5, Bool.or_true]
def lastW (T : List (List Nat × List Nat)) (B : List Nat) (l : List Bool) (ds : List Nat) (i : Nat) : Bool := ds.all fun d => l.getD d true || (decide (d < T.length) && (B.getD d 0).testBit i)
def takeW (T : Bool × List (List Nat × List Nat)) (B : List Nat) (ds : List Nat) (l l' : List Bool) (i : Nat) : Bool := T.1 && freeT T.2 l i && readyAt T.2 l i && closedT T.2 l && lastW T.2 B l ds i && (l.set i true == l')
theorem take_ofW {B : List Nat} (hT : rtab md ops = T) (hB : waitsOk T.2 B = true) (h : takeW T B ds l.toList l'.toList i = true) : takeB md ops ds l l' i = true := by
  refine take_of hT ?_
  simp only [takeW, takeT, Bool.and_eq_true] at h ⊢
  obtain ⟨⟨⟨⟨⟨h1, h2⟩, h3⟩, h4⟩, h5⟩, h6⟩ := h
  refine ⟨⟨⟨⟨⟨h1, h2⟩, h3⟩, h4⟩, ?_⟩, h6⟩
  unfold lastW at h5
  unfold lastT
  rw [List.all_eq_true] at h5 ⊢
  intro d hd
  have h7 := h5 d hd
  rw [Bool.or_eq_true, Bool.and_eq_true, decide_eq_true_eq] at h7
  rcases h7 with h7 | ⟨h8, h9⟩
  · rw [h7, Bool.true_or]
  · rw [reach_bit hB _ d h8 h8 h9, Bool.or_true]
end
end Go.Proofs.YtejdpjmfnpbadaaGreatDoorW.PrintLast
namespace Go.Proofs.YtejdpjmfnpbadaaGreatDoorQ.P
open Go.RowKit Go.Proofs.YtejdpjmfnpbadaaGreatDoorW.PrintWords Go.Proofs.YtejdpjmfnpbadaaGreatDoorW.PrintLast Go.Proofs.YtejdpjmfnpbadaaGreatDoorW.PrintMore
attribute [local go_sem] max2_int min2_int max_two min_two max_three min_three max_four min_four
theorem info3 : (Tryz.prog.info? 3).map (fun i => (i.zero, i.size, i.bytes)) = some (some (.int .i64 0), 1, 8) := by kernel_rfl
def rd_T46 (xs : List S46) (i : Int) : S46 := xs.getD i.toNat z46
theorem at_T46 {w : World} {A : Option Addr} {n : Nat} {xs : List S46} (h : Kd.C k46 w A n xs) (i : Int) (h0 : 0 ≤ i) (h1 : i < n) : ∃ ad A0 c0 A1 c1, A = some ad ∧ w.cell? (ad.add (i.toNat * 2)) = some (.slice A0 (rd_T46 xs i).f0.length c0) ∧ w.cell? ⟨(ad.add (i.toNat * 2)).block, (ad.add (i.toNat * 2)).off + 1, none⟩ = some (.slice A1 (rd_T46 xs i).f1.length c1) ∧ (rd_T46 xs i).f0.length ≤ c0 ∧ (Kd.int .i64).C w A0 (rd_T46 xs i).f0.length (rd_T46 xs i).f0 ∧ (rd_T46 xs i).f1.length ≤ c1 ∧ k173.C w A1 (rd_T46 xs i).f1.length (rd_T46 xs i).f1 := by
 obtain ⟨ad, c, e, _, hK, hc0⟩ := Kd.C_get h z46 i h0 h1
 have hc : ∀ j u, c[j]? = some u → w.cell? (ad.add (i.toNat * 2 + j)) = some u := hc0
 obtain ⟨A0, c0, A1, c1, rfl, l0, g0, l1, g1⟩ := k46_open hK
 exact ⟨ad, A0, c0, A1, c1, e, hc 0 _ rfl, by rw [← add_field _ _ 1 (by omega)]; exact hc 1 _ rfl, l0, g0, l1, g1⟩
end Go.Proofs.YtejdpjmfnpbadaaGreatDoorQ.P
namespace Go.Proofs.YtejdpjmfnpbadaaGreatDoor
open Go.RowKit Go.Proofs.YtejdpjmfnpbadaaGreatDoorW.PrintWords Go.Proofs.YtejdpjmfnpbadaaGreatDoorW.PrintMore
theorem drop_cons {α : Type} {xs : List α} {i : Nat} (h : i < xs.length) : xs.drop i = xs[i] :: xs.drop (i + 1) := List.drop_eq_getElem_cons h
theorem drop_end {α : Type} {xs : List α} {i : Nat} (h : xs.length ≤ i) : xs.drop i = [] := List.drop_eq_nil_of_le h
end Go.Proofs.YtejdpjmfnpbadaaGreatDoor
namespace Go.Proofs
open Go.Shelf
open Go.RowKit in
theorem Tryz.strconv_Atoi_syntax (s : ByteArray) (hlim : s.size ≤ 281474976710656) (h : Lib.atoiAll s.data.toList = .«syntax») (ev : Value) (w : World) (hv : w.cell? ⟨4, 0, none⟩ = some ev) (hev : ev = .nilIface ∨ ∃ te pe, ev = .iface te pe) :
    Calls Tryz.prog 200 #[.string s] w fun e w' => ∃ N, e = .returned (.tuple #[.int .i64 (0), .iface 301 (.pointer (some ⟨N, 0, none⟩))]) ∧ w.heap.size ≤ N ∧ w'.heap[N]? = some (.cells #[.string ⟨#[65, 116, 111, 105]⟩, .string s, ev] 317 (0, 0)) ∧ Below w.heap.size w w' := Any.strconv_Atoi_syntax Tryz.laysC172 s hlim h ev w hv hev
end Go.Proofs
namespace Go.Proofs.YtejdpjmfnpbadaaGreatDoorQ.P
open Go.RowKit Go.Proofs.YtejdpjmfnpbadaaGreatDoorW.PrintWords Go.Proofs.YtejdpjmfnpbadaaGreatDoorW.PrintLast Go.Proofs.YtejdpjmfnpbadaaGreatDoorW.PrintMore Go.Proofs.YtejdpjmfnpbadaaGreatDoor
theorem all_no {p : UInt8 → Bool} {l : List UInt8} {i : Nat} (h : i < l.length) (hp : p l[i] = false) : l.all p = false := List.all_eq_false.2 ⟨_, List.getElem_mem h, by rw [hp]; simp⟩
theorem all_yes {p : UInt8 → Bool} {l : List UInt8} {i : Nat} (h : i < l.length) (ha : (l.take i).all p = true) (hp : p l[i] = true) : (l.take (i + 1)).all p = true := by
  rw [List.take_succ_eq_append_getElem h, List.all_append, ha, List.all_cons, hp]
  rfl
end Go.Proofs.YtejdpjmfnpbadaaGreatDoorQ.P
namespace Go.Proofs.YtejdpjmfnpbadaaGreatDoorQ.P
open Go.RowKit Go.Proofs.YtejdpjmfnpbadaaGreatDoorW.PrintWords Go.Proofs.YtejdpjmfnpbadaaGreatDoorW.PrintLast Go.Proofs.YtejdpjmfnpbadaaGreatDoorW.PrintMore
attribute [local go_sem] max2_int min2_int max_two min_two max_three min_three max_four min_four
def foghornref10_Name.l0 : Nat → ByteArray → Int → Option (Bool)
 | 0, _, _ => none
 | k + 1, x0, x3 => if x3 < (x0.size : Int) then (if 0 ≤ x3 then (if (bt x0 x3) < 97 then (some false) else (if (bt x0 x3) > 122 then (some false) else (foghornref10_Name.l0 k x0 (wrap64 (x3 + 1))))) else (none)) else (if (x0.size : Int) ≥ 1 then (some (decide ((x0.size : Int) ≤ 8))) else (some false))
def foghornref10_Name.f (k : Nat) (a0 : ByteArray) : Option (Bool) := foghornref10_Name.l0 k a0 0
set_option maxHeartbeats 8000000 in
set_option maxRecDepth 100000 in
theorem foghornref10_Name.calls (k : Nat) (a0 : ByteArray) (r : Bool) (w : World) (h : foghornref10_Name.f k a0 = some r) :
  Calls Tryz.prog 58 #[.string a0] w fun e w' => e = .returned (.bool r) ∧ Drawn0 w w' := by
 have H : (foghornref10_Name.l0 k a0 0) = some r := h
 clear h
 have H' := aA H
 clear H
 go_enter Tryz.func58, Tryz.ntmps58
 go_wp2
 go_loopg [3] k (fun kq v3 w' => ∃ (x3_1 : Int), v3 = .int .i64 x3_1 ∧ Aside0 (foghornref10_Name.l0 kq a0 x3_1 = some r) ∧ Aside0 (kq ≤ k) ∧ Drawn0 w w')
 case atStart => exact ⟨(0), (by first | rfl | (simp; done) | (simp [*]; done)), H', ⟨Nat.le_refl _⟩, by repeat (first | exact Drawn0.refl _ | apply Drawn0.step)⟩
 case round =>
  clear H'
  obtain ⟨x3_1, rfl, HA, HK1, ⟨m1, rfl⟩⟩ := hrel
  cases gk with
  | zero => exact absurd HA.out (by simp [foghornref10_Name.l0])
  | succ k1 =>
   have H := HA.out
   clear HA
   simp only [foghornref10_Name.l0] at H
   by_cases c2 : x3_1 < (a0.size : Int)
   ·rw [if_pos c2] at H
    have c2b0 : decide (x3_1 < (a0.size : Int)) = true := decide_eq_true c2
    clear c2
    by_cases c3 : 0 ≤ x3_1
    ·rw [if_pos c3] at H
     have c3b0 : decide (0 ≤ x3_1) = true := decide_eq_true c3
     clear c3
     by_cases c5 : (bt a0 x3_1) < 97
     ·rw [if_pos c5] at H
      have c5b0 : decide ((bt a0 x3_1) < 97) = true := decide_eq_true c5
      clear c5
      obtain rfl := Option.some.inj H
      have p4 : 0 ≤ (x3_1 : Int) := of_decide_eq_true (by first | (with_reducible assumption) | assumption)
      have q4 : x3_1 < (a0.size : Int) := of_decide_eq_true (by first | (with_reducible assumption) | assumption)
      have hx4 := bt_at a0 x3_1
      replace p4 := eq_true p4
      replace q4 := eq_true q4
      go_wp2
      go_ret
      exact ⟨by first | rfl | (simp; done) | (simp [*]; done), by repeat (first | exact Drawn0.refl _ | apply Drawn0.step)⟩
     ·rw [if_neg c5] at H
      have c5b0 : decide ((bt a0 x3_1) < 97) = false := decide_eq_false c5
      clear c5
      by_cases c7 : (bt a0 x3_1) > 122
      ·rw [if_pos c7] at H
       have c7b0 : decide (122 < (bt a0 x3_1)) = true := decide_eq_true c7
       clear c7
       obtain rfl := Option.some.inj H
       have p4 : 0 ≤ (x3_1 : Int) := of_decide_eq_true (by first | (with_reducible assumption) | assumption)
       have q4 : x3_1 < (a0.size : Int) := of_decide_eq_true (by first | (with_reducible assumption) | assumption)
       have hx4 := bt_at a0 x3_1
       replace p4 := eq_true p4
       replace q4 := eq_true q4
       have p6 : 0 ≤ (x3_1 : Int) := of_decide_eq_true (by first | (with_reducible assumption) | assumption)
       have q6 : x3_1 < (a0.size : Int) := of_decide_eq_true (by first | (with_reducible assumption) | assumption)
       have hx6 := bt_at a0 x3_1
       replace p6 := eq_true p6
       replace q6 := eq_true q6
       go_wp2
       go_ret
       exact ⟨by first | rfl | (simp; done) | (simp [*]; done), by repeat (first | exact Drawn0.refl _ | apply Drawn0.step)⟩
      ·rw [if_neg c7] at H
       have c7b0 : decide (122 < (bt a0 x3_1)) = false := decide_eq_false c7
       clear c7
       have H' := aA H
       clear H
       have p4 : 0 ≤ (x3_1 : Int) := of_decide_eq_true (by first | (with_reducible assumption) | assumption)
       have q4 : x3_1 < (a0.size : Int) := of_decide_eq_true (by first | (with_reducible assumption) | assumption)
       have hx4 := bt_at a0 x3_1
       replace p4 := eq_true p4
       replace q4 := eq_true q4
       have p6 : 0 ≤ (x3_1 : Int) := of_decide_eq_true (by first | (with_reducible assumption) | assumption)
       have q6 : x3_1 < (a0.size : Int) := of_decide_eq_true (by first | (with_reducible assumption) | assumption)
       have hx6 := bt_at a0 x3_1
       replace p6 := eq_true p6
       replace q6 := eq_true q6
       go_wp2
       go_roundg k1
       case measure => have := HK1.out; omega
       case rel => exact ⟨(wrap64 (x3_1 + 1)), (by first | rfl | (simp; done) | (simp [*]; done)), H', ⟨by have := HK1.out; omega⟩, by repeat (first | exact Drawn0.refl _ | apply Drawn0.step)⟩
    ·rw [if_neg c3] at H
     exact absurd H (by simp)
   ·rw [if_neg c2] at H
    have c2b0 : decide (x3_1 < (a0.size : Int)) = false := decide_eq_false c2
    clear c2
    by_cases c8 : (a0.size : Int) ≥ 1
    ·rw [if_pos c8] at H
     have c8b0 : decide (1 ≤ (a0.size : Int)) = true := decide_eq_true c8
     have c8b1 : decide (1 ≤ a0.size) = true := decide_eq_true (by omega)
     clear c8
     obtain rfl := Option.some.inj H
     go_wp2
     go_ret
     exact ⟨by first | rfl | (simp; done) | (simp [*]; done), by repeat (first | exact Drawn0.refl _ | apply Drawn0.step)⟩
    ·rw [if_neg c8] at H
     have c8b0 : decide (1 ≤ (a0.size : Int)) = false := decide_eq_false c8
     have c8b1 : decide (1 ≤ a0.size) = false := decide_eq_false (by omega)
     clear c8
     obtain rfl := Option.some.inj H
     go_wp2
     go_ret
     exact ⟨by first | rfl | (simp; done) | (simp [*]; done), by repeat (first | exact Drawn0.refl _ | apply Drawn0.step)⟩
end Go.Proofs.YtejdpjmfnpbadaaGreatDoorQ.P
namespace Go.Proofs.YtejdpjmfnpbadaaGreatDoorQ.P
open Go.RowKit Go.Proofs.YtejdpjmfnpbadaaGreatDoorW.PrintWords Go.Proofs.YtejdpjmfnpbadaaGreatDoorW.PrintLast Go.Proofs.YtejdpjmfnpbadaaGreatDoorW.PrintMore
attribute [local go_sem] max2_int min2_int max_two min_two max_three min_three max_four min_four
def foghornref06_Right.f (a0_0 : Int) (a0_1 : Int) (a0_2 : Int) : Option (Bool) := if a0_0 ≥ 1 then (if a0_0 ≤ 1048576 then (if a0_1 ≥ a0_0 then (if a0_1 ≤ 1073741824 then (if a0_2 ≥ 0 then (some (decide (a0_2 ≤ 1048576))) else (some false)) else (some false)) else (some false)) else (some false)) else (some false)
set_option maxHeartbeats 8000000 in
set_option maxRecDepth 100000 in
theorem foghornref06_Right.calls (a0_0 : Int) (a0_1 : Int) (a0_2 : Int) (r : Bool) (w : World) (h : foghornref06_Right.f a0_0 a0_1 a0_2 = some r) :
  Calls Tryz.prog 59 #[.agg #[.int .i64 a0_0, .int .i64 a0_1, .int .i64 a0_2]] w fun e w' => e = .returned (.bool r) ∧ Below w.heap.size w w' := by
 have hu39 := Tryz.underlying39
 have HB := aA (Below.refl w.heap.size w)
 have H : (if a0_0 ≥ 1 then (if a0_0 ≤ 1048576 then (if a0_1 ≥ a0_0 then (if a0_1 ≤ 1073741824 then (if a0_2 ≥ 0 then (some (decide (a0_2 ≤ 1048576))) else (some false)) else (some false)) else (some false)) else (some false)) else (some false)) = some r := h
 clear h
 by_cases c2 : a0_0 ≥ 1
 ·rw [if_pos c2] at H
  have c2b0 : decide (1 ≤ a0_0) = true := decide_eq_true c2
  clear c2
  by_cases c3 : a0_0 ≤ 1048576
  ·rw [if_pos c3] at H
   have c3b0 : decide (a0_0 ≤ 1048576) = true := decide_eq_true c3
   clear c3
   by_cases c4 : a0_1 ≥ a0_0
   ·rw [if_pos c4] at H
    have c4b0 : decide (a0_0 ≤ a0_1) = true := decide_eq_true c4
    clear c4
    by_cases c5 : a0_1 ≤ 1073741824
    ·rw [if_pos c5] at H
     have c5b0 : decide (a0_1 ≤ 1073741824) = true := decide_eq_true c5
     clear c5
     by_cases c6 : a0_2 ≥ 0
     ·rw [if_pos c6] at H
      have c6b0 : decide (0 ≤ a0_2) = true := decide_eq_true c6
      clear c6
      obtain rfl := Option.some.inj H
      go_enter Tryz.func59, Tryz.ntmps59
      go_wp2_with (first | ((with_reducible refine gate_dst (N := 1) rfl ?_); refine box_event ?hg (N := 1) ?hd (cs := #[.int .i64 a0_0, .int .i64 a0_1, .int .i64 a0_2]) (t := 39) ?hr ?_; (case hd => rfl); (case hg => rfl); (case hr => first | (go_simp; done) | (go_simp; rfl)); intro gb139 hg w7 hbox hb; have n0_ := aA (below_step mB hb); have n1_ := aA (hbox); have n2_ := aA ((bZ hg mB)); have n3_ := aA ((bZ hg mB)); clear HB; have HB := n0_; have BK139 := n1_; have GW139 := n2_; have GE139 := n3_; clear n0_ n1_ n2_ n3_ hb hbox hg; obtain ⟨hcz8_0, hcz8_1, hcz8_2⟩ := bC3 BK139.out; obtain ⟨hfz8_0, hfz8_1, hfz8_2⟩ := bF3 BK139.out))
      go_ret
      exact ⟨by first | rfl | (simp [errW_none, errW_some] <;> rfl) | (simp [*, errW_none, errW_some] <;> rfl), by repeat (first | (with_reducible first | exact HB.out | apply below_alloc | apply pw_below_drewN | apply below_drew1 | refine below_set ?_ GE139.out) | exact HB.out)⟩
     ·rw [if_neg c6] at H
      have c6b0 : decide (0 ≤ a0_2) = false := decide_eq_false c6
      clear c6
      obtain rfl := Option.some.inj H
      go_enter Tryz.func59, Tryz.ntmps59
      go_wp2_with (first | ((with_reducible refine gate_dst (N := 1) rfl ?_); refine box_event ?hg (N := 1) ?hd (cs := #[.int .i64 a0_0, .int .i64 a0_1, .int .i64 a0_2]) (t := 39) ?hr ?_; (case hd => rfl); (case hg => rfl); (case hr => first | (go_simp; done) | (go_simp; rfl)); intro gb139 hg w9 hbox hb; have n0_ := aA (below_step mB hb); have n1_ := aA (hbox); have n2_ := aA ((bZ hg mB)); have n3_ := aA ((bZ hg mB)); clear HB; have HB := n0_; have BK139 := n1_; have GW139 := n2_; have GE139 := n3_; clear n0_ n1_ n2_ n3_ hb hbox hg; obtain ⟨hcz10_0, hcz10_1, hcz10_2⟩ := bC3 BK139.out; obtain ⟨hfz10_0, hfz10_1, hfz10_2⟩ := bF3 BK139.out))
      go_ret
      exact ⟨by first | rfl | (simp [errW_none, errW_some] <;> rfl) | (simp [*, errW_none, errW_some] <;> rfl), by repeat (first | (with_reducible first | exact HB.out | apply below_alloc | apply pw_below_drewN | apply below_drew1 | refine below_set ?_ GE139.out) | exact HB.out)⟩
    ·rw [if_neg c5] at H
     have c5b0 : decide (a0_1 ≤ 1073741824) = false := decide_eq_false c5
     clear c5
     obtain rfl := Option.some.inj H
     go_enter Tryz.func59, Tryz.ntmps59
     go_wp2_with (first | ((with_reducible refine gate_dst (N := 1) rfl ?_); refine box_event ?hg (N := 1) ?hd (cs := #[.int .i64 a0_0, .int .i64 a0_1, .int .i64 a0_2]) (t := 39) ?hr ?_; (case hd => rfl); (case hg => rfl); (case hr => first | (go_simp; done) | (go_simp; rfl)); intro gb139 hg w11 hbox hb; have n0_ := aA (below_step mB hb); have n1_ := aA (hbox); have n2_ := aA ((bZ hg mB)); have n3_ := aA ((bZ hg mB)); clear HB; have HB := n0_; have BK139 := n1_; have GW139 := n2_; have GE139 := n3_; clear n0_ n1_ n2_ n3_ hb hbox hg; obtain ⟨hcz12_0, hcz12_1, hcz12_2⟩ := bC3 BK139.out; obtain ⟨hfz12_0, hfz12_1, hfz12_2⟩ := bF3 BK139.out))
     go_ret
     exact ⟨by first | rfl | (simp [errW_none, errW_some] <;> rfl) | (simp [*, errW_none, errW_some] <;> rfl), by repeat (first | (with_reducible first | exact HB.out | apply below_alloc | apply pw_below_drewN | apply below_drew1 | refine below_set ?_ GE139.out) | exact HB.out)⟩
   ·rw [if_neg c4] at H
    have c4b0 : decide (a0_0 ≤ a0_1) = false := decide_eq_false c4
    clear c4
    obtain rfl := Option.some.inj H
    go_enter Tryz.func59, Tryz.ntmps59
    go_wp2_with (first | ((with_reducible refine gate_dst (N := 1) rfl ?_); refine box_event ?hg (N := 1) ?hd (cs := #[.int .i64 a0_0, .int .i64 a0_1, .int .i64 a0_2]) (t := 39) ?hr ?_; (case hd => rfl); (case hg => rfl); (case hr => first | (go_simp; done) | (go_simp; rfl)); intro gb139 hg w13 hbox hb; have n0_ := aA (below_step mB hb); have n1_ := aA (hbox); have n2_ := aA ((bZ hg mB)); have n3_ := aA ((bZ hg mB)); clear HB; have HB := n0_; have BK139 := n1_; have GW139 := n2_; have GE139 := n3_; clear n0_ n1_ n2_ n3_ hb hbox hg; obtain ⟨hcz14_0, hcz14_1, hcz14_2⟩ := bC3 BK139.out; obtain ⟨hfz14_0, hfz14_1, hfz14_2⟩ := bF3 BK139.out))
    go_ret
    exact ⟨by first | rfl | (simp [errW_none, errW_some] <;> rfl) | (simp [*, errW_none, errW_some] <;> rfl), by repeat (first | (with_reducible first | exact HB.out | apply below_alloc | apply pw_below_drewN | apply below_drew1 | refine below_set ?_ GE139.out) | exact HB.out)⟩
  ·rw [if_neg c3] at H
   have c3b0 : decide (a0_0 ≤ 1048576) = false := decide_eq_false c3
   clear c3
   obtain rfl := Option.some.inj H
   go_enter Tryz.func59, Tryz.ntmps59
   go_wp2_with (first | ((with_reducible refine gate_dst (N := 1) rfl ?_); refine box_event ?hg (N := 1) ?hd (cs := #[.int .i64 a0_0, .int .i64 a0_1, .int .i64 a0_2]) (t := 39) ?hr ?_; (case hd => rfl); (case hg => rfl); (case hr => first | (go_simp; done) | (go_simp; rfl)); intro gb139 hg w15 hbox hb; have n0_ := aA (below_step mB hb); have n1_ := aA (hbox); have n2_ := aA ((bZ hg mB)); have n3_ := aA ((bZ hg mB)); clear HB; have HB := n0_; have BK139 := n1_; have GW139 := n2_; have GE139 := n3_; clear n0_ n1_ n2_ n3_ hb hbox hg; obtain ⟨hcz16_0, hcz16_1, hcz16_2⟩ := bC3 BK139.out; obtain ⟨hfz16_0, hfz16_1, hfz16_2⟩ := bF3 BK139.out))
   go_ret
   exact ⟨by first | rfl | (simp [errW_none, errW_some] <;> rfl) | (simp [*, errW_none, errW_some] <;> rfl), by repeat (first | (with_reducible first | exact HB.out | apply below_alloc | apply pw_below_drewN | apply below_drew1 | refine below_set ?_ GE139.out) | exact HB.out)⟩
 ·rw [if_neg c2] at H
  have c2b0 : decide (1 ≤ a0_0) = false := decide_eq_false c2
  clear c2
  obtain rfl := Option.some.inj H
  go_enter Tryz.func59, Tryz.ntmps59
  go_wp2_with (first | ((with_reducible refine gate_dst (N := 1) rfl ?_); refine box_event ?hg (N := 1) ?hd (cs := #[.int .i64 a0_0, .int .i64 a0_1, .int .i64 a0_2]) (t := 39) ?hr ?_; (case hd => rfl); (case hg => rfl); (case hr => first | (go_simp; done) | (go_simp; rfl)); intro gb139 hg w17 hbox hb; have n0_ := aA (below_step mB hb); have n1_ := aA (hbox); have n2_ := aA ((bZ hg mB)); have n3_ := aA ((bZ hg mB)); clear HB; have HB := n0_; have BK139 := n1_; have GW139 := n2_; have GE139 := n3_; clear n0_ n1_ n2_ n3_ hb hbox hg; obtain ⟨hcz18_0, hcz18_1, hcz18_2⟩ := bC3 BK139.out; obtain ⟨hfz18_0, hfz18_1, hfz18_2⟩ := bF3 BK139.out))
  go_ret
  exact ⟨by first | rfl | (simp [errW_none, errW_some] <;> rfl) | (simp [*, errW_none, errW_some] <;> rfl), by repeat (first | (with_reducible first | exact HB.out | apply below_alloc | apply pw_below_drewN | apply below_drew1 | refine below_set ?_ GE139.out) | exact HB.out)⟩
end Go.Proofs.YtejdpjmfnpbadaaGreatDoorQ.P
namespace Go.Proofs.YtejdpjmfnpbadaaGreatDoorQ.P
open Go.RowKit Go.Proofs.YtejdpjmfnpbadaaGreatDoorW.PrintWords Go.Proofs.YtejdpjmfnpbadaaGreatDoorW.PrintLast Go.Proofs.YtejdpjmfnpbadaaGreatDoorW.PrintMore
attribute [local go_sem] max2_int min2_int max_two min_two max_three min_three max_four min_four
def foghornref05_Right.f (a0 : Int) : Option (Bool) := if a0 ≥ 0 then (some (decide (a0 ≤ 1099511627776))) else (some false)
set_option maxHeartbeats 8000000 in
set_option maxRecDepth 100000 in
theorem foghornref05_Right.calls (a0 : Int) (r : Bool) (w : World) (h : foghornref05_Right.f a0 = some r) :
  Calls Tryz.prog 109 #[.int .i64 a0] w fun e w' => e = .returned (.bool r) ∧ Drawn0 w w' := by
 have H : (if a0 ≥ 0 then (some (decide (a0 ≤ 1099511627776))) else (some false)) = some r := h
 clear h
 by_cases c2 : a0 ≥ 0
 ·rw [if_pos c2] at H
  have c2b0 : decide (0 ≤ a0) = true := decide_eq_true c2
  clear c2
  obtain rfl := Option.some.inj H
  go_enter Tryz.func109, Tryz.ntmps109
  go_wp2
  go_ret
  exact ⟨by first | rfl | (simp; done) | (simp [*]; done), by repeat (first | exact Drawn0.refl _ | apply Drawn0.step)⟩
 ·rw [if_neg c2] at H
  have c2b0 : decide (0 ≤ a0) = false := decide_eq_false c2
  clear c2
  obtain rfl := Option.some.inj H
  go_enter Tryz.func109, Tryz.ntmps109
  go_wp2
  go_ret
  exact ⟨by first | rfl | (simp; done) | (simp [*]; done), by repeat (first | exact Drawn0.refl _ | apply Drawn0.step)⟩
end Go.Proofs.YtejdpjmfnpbadaaGreatDoorQ.P
namespace Go.Proofs.YtejdpjmfnpbadaaGreatDoorQ.P
open Go.RowKit Go.Proofs.YtejdpjmfnpbadaaGreatDoorW.PrintWords Go.Proofs.YtejdpjmfnpbadaaGreatDoorW.PrintLast Go.Proofs.YtejdpjmfnpbadaaGreatDoorW.PrintMore
attribute [local go_sem] max2_int min2_int max_two min_two max_three min_three max_four min_four
def foghornref07_Right.j0 : Nat → Bool → Int → Int → Int → Int → Int → Option (Bool)
 | 0, _, _, _, _, _, _ => none
 | k + 1, x20, x141000, x141001, x141002, x141003, x141004 => if x20 = true then (some false) else (if x141002 = 0 then (if x141003 ≥ 0 then (if x141003 < x141000 then (some (x141004 == 0)) else (some false)) else (some false)) else (if x141002 = 1 then (if x141003 = 0 then ((foghornref05_Right.f x141004).bind fun t141 => (some t141)) else (some false)) else (if x141002 = 2 then (if x141003 = 0 then (some (x141004 == 0)) else (some false)) else (some false))))
def foghornref07_Right.f (k : Nat) (a0_0 : Int) (a0_1 : Int) (a0_2 : Int) (a0_3 : Int) (a0_4 : Int) : Option (Bool) := if a0_0 < 1 then (foghornref07_Right.j0 k true a0_0 a0_1 a0_2 a0_3 a0_4) else (if a0_0 > 100 then (foghornref07_Right.j0 k true a0_0 a0_1 a0_2 a0_3 a0_4) else (if a0_1 < 1 then (foghornref07_Right.j0 k true a0_0 a0_1 a0_2 a0_3 a0_4) else (foghornref07_Right.j0 k (decide (a0_1 > 1048576)) a0_0 a0_1 a0_2 a0_3 a0_4)))
set_option maxHeartbeats 8000000 in
set_option maxRecDepth 100000 in
theorem foghornref07_Right.calls (k : Nat) (a0_0 : Int) (a0_1 : Int) (a0_2 : Int) (a0_3 : Int) (a0_4 : Int) (r : Bool) (w : World) (h : foghornref07_Right.f k a0_0 a0_1 a0_2 a0_3 a0_4 = some r) :
  Calls Tryz.prog 60 #[.agg #[.int .i64 a0_0, .int .i64 a0_1, .int .i64 a0_2, .int .i64 a0_3, .int .i64 a0_4]] w fun e w' => e = .returned (.bool r) ∧ Below w.heap.size w w' := by
 have hu85 := Tryz.underlying85
 have HB := aA (Below.refl w.heap.size w)
 have H : (if a0_0 < 1 then (foghornref07_Right.j0 k true a0_0 a0_1 a0_2 a0_3 a0_4) else (if a0_0 > 100 then (foghornref07_Right.j0 k true a0_0 a0_1 a0_2 a0_3 a0_4) else (if a0_1 < 1 then (foghornref07_Right.j0 k true a0_0 a0_1 a0_2 a0_3 a0_4) else (foghornref07_Right.j0 k (decide (a0_1 > 1048576)) a0_0 a0_1 a0_2 a0_3 a0_4)))) = some r := h
 clear h
 have HC2 := aA H
 clear H
 go_enter Tryz.func60, Tryz.ntmps60
 go_upto_region 1 with (first | ((with_reducible refine gate_dst (N := 1) rfl ?_); refine box_event ?hg (N := 1) ?hd (cs := #[.int .i64 a0_0, .int .i64 a0_1, .int .i64 a0_2, .int .i64 a0_3, .int .i64 a0_4]) (t := 85) ?hr ?_; (case hd => rfl); (case hg => rfl); (case hr => first | (go_simp; done) | (go_simp; rfl)); intro gb140 hg w3 hbox hb; have n0_ := aA (below_step mB hb); have n1_ := aA (hbox); have n2_ := aA ((bZ hg mB)); have n3_ := aA ((bZ hg mB)); clear HB; have HB := n0_; have BK140 := n1_; have GW140 := n2_; have GE140 := n3_; clear n0_ n1_ n2_ n3_ hb hbox hg))
 (try simp only [Act.put, List.setIfInBounds_toArray, List.set_cons_zero, List.set_cons_succ])
 go_cut [20] (fun v20 wc => ∃ (kq : Nat) (x20_1 : Bool), v20 = .bool x20_1 ∧ Aside0 (foghornref07_Right.j0 kq x20_1 a0_0 a0_1 a0_2 a0_3 a0_4 = some r) ∧ Aside0 (kq ≤ k) ∧ Aside0 (wc.heap[gb140]? = some (.cells #[.int .i64 a0_0, .int .i64 a0_1, .int .i64 a0_2, .int .i64 a0_3, .int .i64 a0_4] 85 (0, 0))) ∧ Aside0 (Below w.heap.size w wc))
 case first =>
  have H := HC2.out
  clear HC2
  by_cases c4 : a0_0 < 1
  ·rw [if_pos c4] at H
   have c4b0 : decide (a0_0 < 1) = true := decide_eq_true c4
   clear c4
   (first | rw [c4b0] | (simp only [i64_w, i32_w]; rw [c4b0]) | skip)
   have H' := aA H
   clear H
   obtain ⟨hcz5_0, hcz5_1, hcz5_2, hcz5_3, hcz5_4⟩ := bC5 BK140.out
   obtain ⟨hfz5_0, hfz5_1, hfz5_2, hfz5_3, hfz5_4⟩ := bF5 BK140.out
   go_wp2
   go_meet
   case rel => exact ⟨_, (true), (by first | rfl | (simp; done) | (simp [*]; done)), H', ⟨by first | omega | exact Nat.le_refl _⟩, ⟨by (with_reducible repeat (first | refine blk_drewN ?_ _ | refine blk_drew ?_ | refine blk_alloc ?_ _)); exact BK140.out⟩, ⟨by repeat (first | (with_reducible first | exact HB.out | apply below_alloc | apply pw_below_drewN | apply below_drew1 | refine below_set ?_ GE140.out) | exact HB.out)⟩⟩
  ·rw [if_neg c4] at H
   have c4b0 : decide (a0_0 < 1) = false := decide_eq_false c4
   clear c4
   (first | rw [c4b0] | (simp only [i64_w, i32_w]; rw [c4b0]) | skip)
   by_cases c6 : a0_0 > 100
   ·rw [if_pos c6] at H
    have c6b0 : decide (100 < a0_0) = true := decide_eq_true c6
    clear c6
    have H' := aA H
    clear H
    obtain ⟨hcz7_0, hcz7_1, hcz7_2, hcz7_3, hcz7_4⟩ := bC5 BK140.out
    obtain ⟨hfz7_0, hfz7_1, hfz7_2, hfz7_3, hfz7_4⟩ := bF5 BK140.out
    go_wp2
    go_meet
    case rel => exact ⟨_, (true), (by first | rfl | (simp; done) | (simp [*]; done)), H', ⟨by first | omega | exact Nat.le_refl _⟩, ⟨by (with_reducible repeat (first | refine blk_drewN ?_ _ | refine blk_drew ?_ | refine blk_alloc ?_ _)); exact BK140.out⟩, ⟨by repeat (first | (with_reducible first | exact HB.out | apply below_alloc | apply pw_below_drewN | apply below_drew1 | refine below_set ?_ GE140.out) | exact HB.out)⟩⟩
   ·rw [if_neg c6] at H
    have c6b0 : decide (100 < a0_0) = false := decide_eq_false c6
    clear c6
    by_cases c8 : a0_1 < 1
    ·rw [if_pos c8] at H
     have c8b0 : decide (a0_1 < 1) = true := decide_eq_true c8
     clear c8
     have H' := aA H
     clear H
     obtain ⟨hcz9_0, hcz9_1, hcz9_2, hcz9_3, hcz9_4⟩ := bC5 BK140.out
     obtain ⟨hfz9_0, hfz9_1, hfz9_2, hfz9_3, hfz9_4⟩ := bF5 BK140.out
     go_wp2
     go_meet
     case rel => exact ⟨_, (true), (by first | rfl | (simp; done) | (simp [*]; done)), H', ⟨by first | omega | exact Nat.le_refl _⟩, ⟨by (with_reducible repeat (first | refine blk_drewN ?_ _ | refine blk_drew ?_ | refine blk_alloc ?_ _)); exact BK140.out⟩, ⟨by repeat (first | (with_reducible first | exact HB.out | apply below_alloc | apply pw_below_drewN | apply below_drew1 | refine below_set ?_ GE140.out) | exact HB.out)⟩⟩
    ·rw [if_neg c8] at H
     have c8b0 : decide (a0_1 < 1) = false := decide_eq_false c8
     clear c8
     have H' := aA H
     clear H
     obtain ⟨hcz10_0, hcz10_1, hcz10_2, hcz10_3, hcz10_4⟩ := bC5 BK140.out
     obtain ⟨hfz10_0, hfz10_1, hfz10_2, hfz10_3, hfz10_4⟩ := bF5 BK140.out
     go_wp2
     go_meet
     case rel => exact ⟨_, (decide (a0_1 > 1048576)), (by first | rfl | (simp; done) | (simp [*]; done)), H', ⟨by first | omega | exact Nat.le_refl _⟩, ⟨by (with_reducible repeat (first | refine blk_drewN ?_ _ | refine blk_drew ?_ | refine blk_alloc ?_ _)); exact BK140.out⟩, ⟨by repeat (first | (with_reducible first | exact HB.out | apply below_alloc | apply pw_below_drewN | apply below_drew1 | refine below_set ?_ GE140.out) | exact HB.out)⟩⟩
 case rest =>
  clear HC2
  try clear p2
  try clear c4
  try clear c4b0
  try clear c6
  try clear c6b0
  try clear c8
  try clear c8b0
  try clear hcz10_0 hcz10_1 hcz10_2 hcz10_3 hcz10_4
  try clear hcz5_0 hcz5_1 hcz5_2 hcz5_3 hcz5_4
  try clear hcz7_0 hcz7_1 hcz7_2 hcz7_3 hcz7_4
  try clear hcz9_0 hcz9_1 hcz9_2 hcz9_3 hcz9_4
  try clear hfz10_0 hfz10_1 hfz10_2 hfz10_3 hfz10_4
  try clear hfz5_0 hfz5_1 hfz5_2 hfz5_3 hfz5_4
  try clear hfz7_0 hfz7_1 hfz7_2 hfz7_3 hfz7_4
  try clear hfz9_0 hfz9_1 hfz9_2 hfz9_3 hfz9_4
  obtain ⟨kq, x20_1, rfl, HA, HJ1, BK140, HB⟩ := hcut
  cases kq with
  | zero => exact absurd HA.out (by simp [foghornref07_Right.j0])
  | succ kj1 =>
   have H := HA.out
   clear HA
   simp only [foghornref07_Right.j0] at H
   by_cases c11 : x20_1 = true
   ·subst c11
    have H1 : (some false) = some r := by rw [if_pos rfl] at H; exact H
    clear H
    have H := H1
    clear H1
    obtain rfl := Option.some.inj H
    go_wp2
    go_ret
    exact ⟨by first | rfl | (simp [errW_none, errW_some] <;> rfl) | (simp [*, errW_none, errW_some] <;> rfl), by repeat (first | (with_reducible first | exact HB.out | apply below_alloc | apply pw_below_drewN | apply below_drew1 | refine below_set ?_ GE140.out) | exact HB.out)⟩
   ·replace c11 := Bool.eq_false_iff.mpr c11
    subst c11
    have H1 : (if a0_2 = 0 then (if a0_3 ≥ 0 then (if a0_3 < a0_0 then (some (a0_4 == 0)) else (some false)) else (some false)) else (if a0_2 = 1 then (if a0_3 = 0 then ((foghornref05_Right.f a0_4).bind fun t141 => (some t141)) else (some false)) else (if a0_2 = 2 then (if a0_3 = 0 then (some (a0_4 == 0)) else (some false)) else (some false)))) = some r := by rw [if_neg (show ¬ (false = true) by decide)] at H; exact H
    clear H
    have H := H1
    clear H1
    by_cases c12 : a0_2 = 0
    ·rw [if_pos c12] at H
     have c12b0 : (a0_2 == 0) = true := beq_iff_eq.mpr c12
     have c12b1 : (a0_2 != 0) = false := bne_eq_false_iff_eq.mpr c12
     clear c12
     by_cases c13 : a0_3 ≥ 0
     ·rw [if_pos c13] at H
      have c13b0 : decide (0 ≤ a0_3) = true := decide_eq_true c13
      clear c13
      by_cases c14 : a0_3 < a0_0
      ·rw [if_pos c14] at H
       have c14b0 : decide (a0_3 < a0_0) = true := decide_eq_true c14
       clear c14
       obtain rfl := Option.some.inj H
       obtain ⟨hcz15_0, hcz15_1, hcz15_2, hcz15_3, hcz15_4⟩ := bC5 BK140.out
       obtain ⟨hfz15_0, hfz15_1, hfz15_2, hfz15_3, hfz15_4⟩ := bF5 BK140.out
       go_wp2
       go_ret
       exact ⟨by first | rfl | (simp [errW_none, errW_some] <;> rfl) | (simp [*, errW_none, errW_some] <;> rfl), by repeat (first | (with_reducible first | exact HB.out | apply below_alloc | apply pw_below_drewN | apply below_drew1 | refine below_set ?_ GE140.out) | exact HB.out)⟩
      ·rw [if_neg c14] at H
       have c14b0 : decide (a0_3 < a0_0) = false := decide_eq_false c14
       clear c14
       obtain rfl := Option.some.inj H
       obtain ⟨hcz16_0, hcz16_1, hcz16_2, hcz16_3, hcz16_4⟩ := bC5 BK140.out
       obtain ⟨hfz16_0, hfz16_1, hfz16_2, hfz16_3, hfz16_4⟩ := bF5 BK140.out
       go_wp2
       go_ret
       exact ⟨by first | rfl | (simp [errW_none, errW_some] <;> rfl) | (simp [*, errW_none, errW_some] <;> rfl), by repeat (first | (with_reducible first | exact HB.out | apply below_alloc | apply pw_below_drewN | apply below_drew1 | refine below_set ?_ GE140.out) | exact HB.out)⟩
     ·rw [if_neg c13] at H
      have c13b0 : decide (0 ≤ a0_3) = false := decide_eq_false c13
      clear c13
      obtain rfl := Option.some.inj H
      obtain ⟨hcz17_0, hcz17_1, hcz17_2, hcz17_3, hcz17_4⟩ := bC5 BK140.out
      obtain ⟨hfz17_0, hfz17_1, hfz17_2, hfz17_3, hfz17_4⟩ := bF5 BK140.out
      go_wp2
      go_ret
      exact ⟨by first | rfl | (simp [errW_none, errW_some] <;> rfl) | (simp [*, errW_none, errW_some] <;> rfl), by repeat (first | (with_reducible first | exact HB.out | apply below_alloc | apply pw_below_drewN | apply below_drew1 | refine below_set ?_ GE140.out) | exact HB.out)⟩
    ·rw [if_neg c12] at H
     have c12b0 : (a0_2 == 0) = false := beq_eq_false_iff_ne.mpr c12
     have c12b1 : (a0_2 != 0) = true := bne_iff_ne.mpr c12
     by_cases c18 : a0_2 = 1
     ·rw [if_pos c18] at H
      have c18b0 : (a0_2 == 1) = true := beq_iff_eq.mpr c18
      have c18b1 : (a0_2 != 1) = false := bne_eq_false_iff_eq.mpr c18
      clear c18
      by_cases c19 : a0_3 = 0
      ·rw [if_pos c19] at H
       have c19b0 : (a0_3 == 0) = true := beq_iff_eq.mpr c19
       have c19b1 : (a0_3 != 0) = false := bne_eq_false_iff_eq.mpr c19
       clear c19
       replace H := Option.bind_eq_some_iff.mp H
       obtain ⟨t141, A200, H⟩ := H
       have A20 := aA A200
       clear A200
       obtain rfl := Option.some.inj H
       obtain ⟨hcz21_0, hcz21_1, hcz21_2, hcz21_3, hcz21_4⟩ := bC5 BK140.out
       obtain ⟨hfz21_0, hfz21_1, hfz21_2, hfz21_3, hfz21_4⟩ := bF5 BK140.out
       go_wp2_with (first | (go_at_call 109; (with_reducible refine (foghornref05_Right.calls a0_4 t141 _ A20.out).mono ?_); rintro e w' ⟨rfl, ⟨nd, rfl⟩⟩))
       go_ret
       exact ⟨by first | rfl | (simp [errW_none, errW_some] <;> rfl) | (simp [*, errW_none, errW_some] <;> rfl), by repeat (first | (with_reducible first | exact HB.out | apply below_alloc | apply pw_below_drewN | apply below_drew1 | refine below_set ?_ GE140.out) | exact HB.out)⟩
      ·rw [if_neg c19] at H
       have c19b0 : (a0_3 == 0) = false := beq_eq_false_iff_ne.mpr c19
       have c19b1 : (a0_3 != 0) = true := bne_iff_ne.mpr c19
       obtain rfl := Option.some.inj H
       obtain ⟨hcz22_0, hcz22_1, hcz22_2, hcz22_3, hcz22_4⟩ := bC5 BK140.out
       obtain ⟨hfz22_0, hfz22_1, hfz22_2, hfz22_3, hfz22_4⟩ := bF5 BK140.out
       go_wp2
       go_ret
       exact ⟨by first | rfl | (simp [errW_none, errW_some] <;> rfl) | (simp [*, errW_none, errW_some] <;> rfl), by repeat (first | (with_reducible first | exact HB.out | apply below_alloc | apply pw_below_drewN | apply below_drew1 | refine below_set ?_ GE140.out) | exact HB.out)⟩
     ·rw [if_neg c18] at H
      have c18b0 : (a0_2 == 1) = false := beq_eq_false_iff_ne.mpr c18
      have c18b1 : (a0_2 != 1) = true := bne_iff_ne.mpr c18
      by_cases c23 : a0_2 = 2
      ·rw [if_pos c23] at H
       have c23b0 : (a0_2 == 2) = true := beq_iff_eq.mpr c23
       have c23b1 : (a0_2 != 2) = false := bne_eq_false_iff_eq.mpr c23
       clear c23
       by_cases c24 : a0_3 = 0
       ·rw [if_pos c24] at H
        have c24b0 : (a0_3 == 0) = true := beq_iff_eq.mpr c24
        have c24b1 : (a0_3 != 0) = false := bne_eq_false_iff_eq.mpr c24
        clear c24
        obtain rfl := Option.some.inj H
        obtain ⟨hcz25_0, hcz25_1, hcz25_2, hcz25_3, hcz25_4⟩ := bC5 BK140.out
        obtain ⟨hfz25_0, hfz25_1, hfz25_2, hfz25_3, hfz25_4⟩ := bF5 BK140.out
        go_wp2
        go_ret
        exact ⟨by first | rfl | (simp [errW_none, errW_some] <;> rfl) | (simp [*, errW_none, errW_some] <;> rfl), by repeat (first | (with_reducible first | exact HB.out | apply below_alloc | apply pw_below_drewN | apply below_drew1 | refine below_set ?_ GE140.out) | exact HB.out)⟩
       ·rw [if_neg c24] at H
        have c24b0 : (a0_3 == 0) = false := beq_eq_false_iff_ne.mpr c24
        have c24b1 : (a0_3 != 0) = true := bne_iff_ne.mpr c24
        obtain rfl := Option.some.inj H
        obtain ⟨hcz26_0, hcz26_1, hcz26_2, hcz26_3, hcz26_4⟩ := bC5 BK140.out
        obtain ⟨hfz26_0, hfz26_1, hfz26_2, hfz26_3, hfz26_4⟩ := bF5 BK140.out
        go_wp2
        go_ret
        exact ⟨by first | rfl | (simp [errW_none, errW_some] <;> rfl) | (simp [*, errW_none, errW_some] <;> rfl), by repeat (first | (with_reducible first | exact HB.out | apply below_alloc | apply pw_below_drewN | apply below_drew1 | refine below_set ?_ GE140.out) | exact HB.out)⟩
      ·rw [if_neg c23] at H
       have c23b0 : (a0_2 == 2) = false := beq_eq_false_iff_ne.mpr c23
       have c23b1 : (a0_2 != 2) = true := bne_iff_ne.mpr c23
       obtain rfl := Option.some.inj H
       obtain ⟨hcz27_0, hcz27_1, hcz27_2, hcz27_3, hcz27_4⟩ := bC5 BK140.out
       obtain ⟨hfz27_0, hfz27_1, hfz27_2, hfz27_3, hfz27_4⟩ := bF5 BK140.out
       go_wp2
       go_ret
       exact ⟨by first | rfl | (simp [errW_none, errW_some] <;> rfl) | (simp [*, errW_none, errW_some] <;> rfl), by repeat (first | (with_reducible first | exact HB.out | apply below_alloc | apply pw_below_drewN | apply below_drew1 | refine below_set ?_ GE140.out) | exact HB.out)⟩
end Go.Proofs.YtejdpjmfnpbadaaGreatDoorQ.P
namespace Go.Proofs.YtejdpjmfnpbadaaGreatDoorQ.P
open Go.RowKit Go.Proofs.YtejdpjmfnpbadaaGreatDoorW.PrintWords Go.Proofs.YtejdpjmfnpbadaaGreatDoorW.PrintLast Go.Proofs.YtejdpjmfnpbadaaGreatDoorW.PrintMore
attribute [local go_sem] max2_int min2_int max_two min_two max_three min_three max_four min_four
def foghornref08_Right.f (a0_0 : Int) (a0_1 : Int) (a0_2 : Int) (a0_3 : Int) : Option (Bool) := if a0_0 ≥ 1 then (if a0_0 ≤ 100 then (if a0_1 ≥ 1 then (if a0_1 ≤ 1048576 then (if a0_2 ≥ 0 then (if a0_2 ≤ a0_0 then ((foghornref05_Right.f a0_3).bind fun t143 => (some t143)) else (some false)) else (some false)) else (some false)) else (some false)) else (some false)) else (some false)
set_option maxHeartbeats 8000000 in
set_option maxRecDepth 100000 in
theorem foghornref08_Right.calls (a0_0 : Int) (a0_1 : Int) (a0_2 : Int) (a0_3 : Int) (r : Bool) (w : World) (h : foghornref08_Right.f a0_0 a0_1 a0_2 a0_3 = some r) :
  Calls Tryz.prog 61 #[.agg #[.int .i64 a0_0, .int .i64 a0_1, .int .i64 a0_2, .int .i64 a0_3]] w fun e w' => e = .returned (.bool r) ∧ Below w.heap.size w w' := by
 have hu87 := Tryz.underlying87
 have HB := aA (Below.refl w.heap.size w)
 have H : (if a0_0 ≥ 1 then (if a0_0 ≤ 100 then (if a0_1 ≥ 1 then (if a0_1 ≤ 1048576 then (if a0_2 ≥ 0 then (if a0_2 ≤ a0_0 then ((foghornref05_Right.f a0_3).bind fun t143 => (some t143)) else (some false)) else (some false)) else (some false)) else (some false)) else (some false)) else (some false)) = some r := h
 clear h
 by_cases c2 : a0_0 ≥ 1
 ·rw [if_pos c2] at H
  have c2b0 : decide (1 ≤ a0_0) = true := decide_eq_true c2
  clear c2
  by_cases c3 : a0_0 ≤ 100
  ·rw [if_pos c3] at H
   have c3b0 : decide (a0_0 ≤ 100) = true := decide_eq_true c3
   clear c3
   by_cases c4 : a0_1 ≥ 1
   ·rw [if_pos c4] at H
    have c4b0 : decide (1 ≤ a0_1) = true := decide_eq_true c4
    clear c4
    by_cases c5 : a0_1 ≤ 1048576
    ·rw [if_pos c5] at H
     have c5b0 : decide (a0_1 ≤ 1048576) = true := decide_eq_true c5
     clear c5
     by_cases c6 : a0_2 ≥ 0
     ·rw [if_pos c6] at H
      have c6b0 : decide (0 ≤ a0_2) = true := decide_eq_true c6
      clear c6
      by_cases c7 : a0_2 ≤ a0_0
      ·rw [if_pos c7] at H
       have c7b0 : decide (a0_2 ≤ a0_0) = true := decide_eq_true c7
       clear c7
       replace H := Option.bind_eq_some_iff.mp H
       obtain ⟨t143, A80, H⟩ := H
       have A8 := aA A80
       clear A80
       obtain rfl := Option.some.inj H
       go_enter Tryz.func61, Tryz.ntmps61
       go_wp2_with (first | ((with_reducible refine gate_dst (N := 1) rfl ?_); refine box_event ?hg (N := 1) ?hd (cs := #[.int .i64 a0_0, .int .i64 a0_1, .int .i64 a0_2, .int .i64 a0_3]) (t := 87) ?hr ?_; (case hd => rfl); (case hg => rfl); (case hr => first | (go_simp; done) | (go_simp; rfl)); intro gb142 hg w9 hbox hb; have n0_ := aA (below_step mB hb); have n1_ := aA (hbox); have n2_ := aA ((bZ hg mB)); have n3_ := aA ((bZ hg mB)); clear HB; have HB := n0_; have BK142 := n1_; have GW142 := n2_; have GE142 := n3_; clear n0_ n1_ n2_ n3_ hb hbox hg; obtain ⟨hcz10_0, hcz10_1, hcz10_2, hcz10_3⟩ := bC4 BK142.out; obtain ⟨hfz10_0, hfz10_1, hfz10_2, hfz10_3⟩ := bF4 BK142.out) | (go_at_call 109; (with_reducible refine (foghornref05_Right.calls a0_3 t143 _ A8.out).mono ?_); rintro e w' ⟨rfl, ⟨nd, rfl⟩⟩))
       go_ret
       exact ⟨by first | rfl | (simp [errW_none, errW_some] <;> rfl) | (simp [*, errW_none, errW_some] <;> rfl), by repeat (first | (with_reducible first | exact HB.out | apply below_alloc | apply pw_below_drewN | apply below_drew1 | refine below_set ?_ GE142.out) | exact HB.out)⟩
      ·rw [if_neg c7] at H
       have c7b0 : decide (a0_2 ≤ a0_0) = false := decide_eq_false c7
       clear c7
       obtain rfl := Option.some.inj H
       go_enter Tryz.func61, Tryz.ntmps61
       go_wp2_with (first | ((with_reducible refine gate_dst (N := 1) rfl ?_); refine box_event ?hg (N := 1) ?hd (cs := #[.int .i64 a0_0, .int .i64 a0_1, .int .i64 a0_2, .int .i64 a0_3]) (t := 87) ?hr ?_; (case hd => rfl); (case hg => rfl); (case hr => first | (go_simp; done) | (go_simp; rfl)); intro gb142 hg w11 hbox hb; have n0_ := aA (below_step mB hb); have n1_ := aA (hbox); have n2_ := aA ((bZ hg mB)); have n3_ := aA ((bZ hg mB)); clear HB; have HB := n0_; have BK142 := n1_; have GW142 := n2_; have GE142 := n3_; clear n0_ n1_ n2_ n3_ hb hbox hg; obtain ⟨hcz12_0, hcz12_1, hcz12_2, hcz12_3⟩ := bC4 BK142.out; obtain ⟨hfz12_0, hfz12_1, hfz12_2, hfz12_3⟩ := bF4 BK142.out))
       go_ret
       exact ⟨by first | rfl | (simp [errW_none, errW_some] <;> rfl) | (simp [*, errW_none, errW_some] <;> rfl), by repeat (first | (with_reducible first | exact HB.out | apply below_alloc | apply pw_below_drewN | apply below_drew1 | refine below_set ?_ GE142.out) | exact HB.out)⟩
     ·rw [if_neg c6] at H
      have c6b0 : decide (0 ≤ a0_2) = false := decide_eq_false c6
      clear c6
      obtain rfl := Option.some.inj H
      go_enter Tryz.func61, Tryz.ntmps61
      go_wp2_with (first | ((with_reducible refine gate_dst (N := 1) rfl ?_); refine box_event ?hg (N := 1) ?hd (cs := #[.int .i64 a0_0, .int .i64 a0_1, .int .i64 a0_2, .int .i64 a0_3]) (t := 87) ?hr ?_; (case hd => rfl); (case hg => rfl); (case hr => first | (go_simp; done) | (go_simp; rfl)); intro gb142 hg w13 hbox hb; have n0_ := aA (below_step mB hb); have n1_ := aA (hbox); have n2_ := aA ((bZ hg mB)); have n3_ := aA ((bZ hg mB)); clear HB; have HB := n0_; have BK142 := n1_; have GW142 := n2_; have GE142 := n3_; clear n0_ n1_ n2_ n3_ hb hbox hg; obtain ⟨hcz14_0, hcz14_1, hcz14_2, hcz14_3⟩ := bC4 BK142.out; obtain ⟨hfz14_0, hfz14_1, hfz14_2, hfz14_3⟩ := bF4 BK142.out))
      go_ret
      exact ⟨by first | rfl | (simp [errW_none, errW_some] <;> rfl) | (simp [*, errW_none, errW_some] <;> rfl), by repeat (first | (with_reducible first | exact HB.out | apply below_alloc | apply pw_below_drewN | apply below_drew1 | refine below_set ?_ GE142.out) | exact HB.out)⟩
    ·rw [if_neg c5] at H
     have c5b0 : decide (a0_1 ≤ 1048576) = false := decide_eq_false c5
     clear c5
     obtain rfl := Option.some.inj H
     go_enter Tryz.func61, Tryz.ntmps61
     go_wp2_with (first | ((with_reducible refine gate_dst (N := 1) rfl ?_); refine box_event ?hg (N := 1) ?hd (cs := #[.int .i64 a0_0, .int .i64 a0_1, .int .i64 a0_2, .int .i64 a0_3]) (t := 87) ?hr ?_; (case hd => rfl); (case hg => rfl); (case hr => first | (go_simp; done) | (go_simp; rfl)); intro gb142 hg w15 hbox hb; have n0_ := aA (below_step mB hb); have n1_ := aA (hbox); have n2_ := aA ((bZ hg mB)); have n3_ := aA ((bZ hg mB)); clear HB; have HB := n0_; have BK142 := n1_; have GW142 := n2_; have GE142 := n3_; clear n0_ n1_ n2_ n3_ hb hbox hg; obtain ⟨hcz16_0, hcz16_1, hcz16_2, hcz16_3⟩ := bC4 BK142.out; obtain ⟨hfz16_0, hfz16_1, hfz16_2, hfz16_3⟩ := bF4 BK142.out))
     go_ret
     exact ⟨by first | rfl | (simp [errW_none, errW_some] <;> rfl) | (simp [*, errW_none, errW_some] <;> rfl), by repeat (first | (with_reducible first | exact HB.out | apply below_alloc | apply pw_below_drewN | apply below_drew1 | refine below_set ?_ GE142.out) | exact HB.out)⟩
   ·rw [if_neg c4] at H
    have c4b0 : decide (1 ≤ a0_1) = false := decide_eq_false c4
    clear c4
    obtain rfl := Option.some.inj H
    go_enter Tryz.func61, Tryz.ntmps61
    go_wp2_with (first | ((with_reducible refine gate_dst (N := 1) rfl ?_); refine box_event ?hg (N := 1) ?hd (cs := #[.int .i64 a0_0, .int .i64 a0_1, .int .i64 a0_2, .int .i64 a0_3]) (t := 87) ?hr ?_; (case hd => rfl); (case hg => rfl); (case hr => first | (go_simp; done) | (go_simp; rfl)); intro gb142 hg w17 hbox hb; have n0_ := aA (below_step mB hb); have n1_ := aA (hbox); have n2_ := aA ((bZ hg mB)); have n3_ := aA ((bZ hg mB)); clear HB; have HB := n0_; have BK142 := n1_; have GW142 := n2_; have GE142 := n3_; clear n0_ n1_ n2_ n3_ hb hbox hg; obtain ⟨hcz18_0, hcz18_1, hcz18_2, hcz18_3⟩ := bC4 BK142.out; obtain ⟨hfz18_0, hfz18_1, hfz18_2, hfz18_3⟩ := bF4 BK142.out))
    go_ret
    exact ⟨by first | rfl | (simp [errW_none, errW_some] <;> rfl) | (simp [*, errW_none, errW_some] <;> rfl), by repeat (first | (with_reducible first | exact HB.out | apply below_alloc | apply pw_below_drewN | apply below_drew1 | refine below_set ?_ GE142.out) | exact HB.out)⟩
  ·rw [if_neg c3] at H
   have c3b0 : decide (a0_0 ≤ 100) = false := decide_eq_false c3
   clear c3
   obtain rfl := Option.some.inj H
   go_enter Tryz.func61, Tryz.ntmps61
   go_wp2_with (first | ((with_reducible refine gate_dst (N := 1) rfl ?_); refine box_event ?hg (N := 1) ?hd (cs := #[.int .i64 a0_0, .int .i64 a0_1, .int .i64 a0_2, .int .i64 a0_3]) (t := 87) ?hr ?_; (case hd => rfl); (case hg => rfl); (case hr => first | (go_simp; done) | (go_simp; rfl)); intro gb142 hg w19 hbox hb; have n0_ := aA (below_step mB hb); have n1_ := aA (hbox); have n2_ := aA ((bZ hg mB)); have n3_ := aA ((bZ hg mB)); clear HB; have HB := n0_; have BK142 := n1_; have GW142 := n2_; have GE142 := n3_; clear n0_ n1_ n2_ n3_ hb hbox hg; obtain ⟨hcz20_0, hcz20_1, hcz20_2, hcz20_3⟩ := bC4 BK142.out; obtain ⟨hfz20_0, hfz20_1, hfz20_2, hfz20_3⟩ := bF4 BK142.out))
   go_ret
   exact ⟨by first | rfl | (simp [errW_none, errW_some] <;> rfl) | (simp [*, errW_none, errW_some] <;> rfl), by repeat (first | (with_reducible first | exact HB.out | apply below_alloc | apply pw_below_drewN | apply below_drew1 | refine below_set ?_ GE142.out) | exact HB.out)⟩
 ·rw [if_neg c2] at H
  have c2b0 : decide (1 ≤ a0_0) = false := decide_eq_false c2
  clear c2
  obtain rfl := Option.some.inj H
  go_enter Tryz.func61, Tryz.ntmps61
  go_wp2_with (first | ((with_reducible refine gate_dst (N := 1) rfl ?_); refine box_event ?hg (N := 1) ?hd (cs := #[.int .i64 a0_0, .int .i64 a0_1, .int .i64 a0_2, .int .i64 a0_3]) (t := 87) ?hr ?_; (case hd => rfl); (case hg => rfl); (case hr => first | (go_simp; done) | (go_simp; rfl)); intro gb142 hg w21 hbox hb; have n0_ := aA (below_step mB hb); have n1_ := aA (hbox); have n2_ := aA ((bZ hg mB)); have n3_ := aA ((bZ hg mB)); clear HB; have HB := n0_; have BK142 := n1_; have GW142 := n2_; have GE142 := n3_; clear n0_ n1_ n2_ n3_ hb hbox hg; obtain ⟨hcz22_0, hcz22_1, hcz22_2, hcz22_3⟩ := bC4 BK142.out; obtain ⟨hfz22_0, hfz22_1, hfz22_2, hfz22_3⟩ := bF4 BK142.out))
  go_ret
  exact ⟨by first | rfl | (simp [errW_none, errW_some] <;> rfl) | (simp [*, errW_none, errW_some] <;> rfl), by repeat (first | (with_reducible first | exact HB.out | apply below_alloc | apply pw_below_drewN | apply below_drew1 | refine below_set ?_ GE142.out) | exact HB.out)⟩
end Go.Proofs.YtejdpjmfnpbadaaGreatDoorQ.P
namespace Go.Proofs.YtejdpjmfnpbadaaGreatDoorQ.P
open Go.RowKit Go.Proofs.YtejdpjmfnpbadaaGreatDoorW.PrintWords Go.Proofs.YtejdpjmfnpbadaaGreatDoorW.PrintLast Go.Proofs.YtejdpjmfnpbadaaGreatDoorW.PrintMore
attribute [local go_sem] max2_int min2_int max_two min_two max_three min_three max_four min_four
def foghornref13_receiver.f (k : Nat) (a0_0 : ByteArray) (a0_1 : Int) (a0_2 : Int) (a0_3 : Int) (a0_4 : Int) (a0_5 : Int) (a0_6 : Int) (a0_7 : Int) (a0_8 : Int) : Option (Bool) := (foghornref10_Name.f k a0_0).bind fun t145 => (if t145 = true then (if a0_0.toList = ([105, 102] : List UInt8) then (some false) else ((foghornref06_Right.f a0_1 a0_2 a0_3).bind fun t146 => (if t146 = true then (if a0_4 ≥ 1 then (if a0_4 ≤ 100 then ((foghornref07_Right.f k a0_5 a0_6 0 0 0).bind fun t147 => (if t147 = true then ((foghornref08_Right.f a0_7 a0_8 0 0).bind fun t148 => (some t148)) else (some false))) else (some false)) else (some false)) else (some false)))) else (some false))
set_option maxHeartbeats 8000000 in
set_option maxRecDepth 100000 in
theorem foghornref13_receiver.calls (k : Nat) (a0_0 : ByteArray) (a0_1 : Int) (a0_2 : Int) (a0_3 : Int) (a0_4 : Int) (a0_5 : Int) (a0_6 : Int) (a0_7 : Int) (a0_8 : Int) (r : Bool) (w : World) (h : foghornref13_receiver.f k a0_0 a0_1 a0_2 a0_3 a0_4 a0_5 a0_6 a0_7 a0_8 = some r) :
  Calls Tryz.prog 26 #[.agg #[.string a0_0, .int .i64 a0_1, .int .i64 a0_2, .int .i64 a0_3, .int .i64 a0_4, .int .i64 a0_5, .int .i64 a0_6, .int .i64 a0_7, .int .i64 a0_8]] w fun e w' => e = .returned (.bool r) ∧ Below w.heap.size w w' := by
 have hu41 := Tryz.underlying41
 have hu39 := Tryz.underlying39
 have hu85 := Tryz.underlying85
 have hu87 := Tryz.underlying87
 have HB := aA (Below.refl w.heap.size w)
 have H : ((foghornref10_Name.f k a0_0).bind fun t145 => (if t145 = true then (if a0_0.toList = ([105, 102] : List UInt8) then (some false) else ((foghornref06_Right.f a0_1 a0_2 a0_3).bind fun t146 => (if t146 = true then (if a0_4 ≥ 1 then (if a0_4 ≤ 100 then ((foghornref07_Right.f k a0_5 a0_6 0 0 0).bind fun t147 => (if t147 = true then ((foghornref08_Right.f a0_7 a0_8 0 0).bind fun t148 => (some t148)) else (some false))) else (some false)) else (some false)) else (some false)))) else (some false))) = some r := h
 clear h
 replace H := Option.bind_eq_some_iff.mp H
 obtain ⟨t145, A20, H⟩ := H
 have A2 := aA A20
 clear A20
 by_cases c3 : t145 = true
 ·subst c3
  have H1 : (if a0_0.toList = ([105, 102] : List UInt8) then (some false) else ((foghornref06_Right.f a0_1 a0_2 a0_3).bind fun t146 => (if t146 = true then (if a0_4 ≥ 1 then (if a0_4 ≤ 100 then ((foghornref07_Right.f k a0_5 a0_6 0 0 0).bind fun t147 => (if t147 = true then ((foghornref08_Right.f a0_7 a0_8 0 0).bind fun t148 => (some t148)) else (some false))) else (some false)) else (some false)) else (some false)))) = some r := by rw [if_pos rfl] at H; exact H
  clear H
  have H := H1
  clear H1
  by_cases c4 : a0_0.toList = ([105, 102] : List UInt8)
  ·rw [if_pos c4] at H
   have c4b0 : (a0_0.toList == ([105, 102] : List UInt8)) = true := beq_iff_eq.mpr c4
   have c4b1 : (a0_0.toList != ([105, 102] : List UInt8)) = false := bne_eq_false_iff_eq.mpr c4
   clear c4
   obtain rfl := Option.some.inj H
   go_enter Tryz.func26, Tryz.ntmps26
   go_wp2_with (first | ((with_reducible refine gate_dst (N := 1) rfl ?_); refine box_event ?hg (N := 1) ?hd (cs := #[.string a0_0, .int .i64 a0_1, .int .i64 a0_2, .int .i64 a0_3, .int .i64 a0_4, .int .i64 a0_5, .int .i64 a0_6, .int .i64 a0_7, .int .i64 a0_8]) (t := 41) ?hr ?_; (case hd => rfl); (case hg => rfl); (case hr => first | (go_simp; done) | (go_simp; rfl)); intro gb144 hg w5 hbox hb; have n0_ := aA (below_step mB hb); have n1_ := aA (hbox); have n2_ := aA ((bZ hg mB)); have n3_ := aA ((bZ hg mB)); clear HB; have HB := n0_; have BK144 := n1_; have GW144 := n2_; have GE144 := n3_; clear n0_ n1_ n2_ n3_ hb hbox hg; obtain ⟨hcz6_0, hcz6_1, hcz6_2, hcz6_3, hcz6_4, hcz6_5, hcz6_6, hcz6_7, hcz6_8⟩ := bC9 BK144.out; obtain ⟨hfz6_0, hfz6_1, hfz6_2, hfz6_3, hfz6_4, hfz6_5, hfz6_6, hfz6_7, hfz6_8⟩ := bF9 BK144.out) | ((with_reducible refine gate_callee (f := 58) rfl ?_); refine goesL_ (some 5) rfl rfl Tryz.func58 (by kernel_rfl) rfl #[.string a0_0] rfl mS ?_; (with_reducible refine (foghornref10_Name.calls k a0_0 true _ A2.out).mono ?_); rintro e w' ⟨rfl, ⟨nd, rfl⟩⟩; refine ⟨_, rfl, ?_⟩))
   go_ret
   exact ⟨by first | rfl | (simp [errW_none, errW_some] <;> rfl) | (simp [*, errW_none, errW_some] <;> rfl), by repeat (first | (with_reducible first | exact HB.out | apply below_alloc | apply pw_below_drewN | apply below_drew1 | refine below_set ?_ GE144.out) | exact HB.out)⟩
  ·rw [if_neg c4] at H
   have c4b0 : (a0_0.toList == ([105, 102] : List UInt8)) = false := beq_eq_false_iff_ne.mpr c4
   have c4b1 : (a0_0.toList != ([105, 102] : List UInt8)) = true := bne_iff_ne.mpr c4
   replace H := Option.bind_eq_some_iff.mp H
   obtain ⟨t146, A70, H⟩ := H
   have A7 := aA A70
   clear A70
   by_cases c8 : t146 = true
   ·subst c8
    have H1 : (if a0_4 ≥ 1 then (if a0_4 ≤ 100 then ((foghornref07_Right.f k a0_5 a0_6 0 0 0).bind fun t147 => (if t147 = true then ((foghornref08_Right.f a0_7 a0_8 0 0).bind fun t148 => (some t148)) else (some false))) else (some false)) else (some false)) = some r := by rw [if_pos rfl] at H; exact H
    clear H
    have H := H1
    clear H1
    by_cases c9 : a0_4 ≥ 1
    ·rw [if_pos c9] at H
     have c9b0 : decide (1 ≤ a0_4) = true := decide_eq_true c9
     clear c9
     by_cases c10 : a0_4 ≤ 100
     ·rw [if_pos c10] at H
      have c10b0 : decide (a0_4 ≤ 100) = true := decide_eq_true c10
      clear c10
      replace H := Option.bind_eq_some_iff.mp H
      obtain ⟨t147, A110, H⟩ := H
      have A11 := aA A110
      clear A110
      by_cases c12 : t147 = true
      ·subst c12
       have H1 : ((foghornref08_Right.f a0_7 a0_8 0 0).bind fun t148 => (some t148)) = some r := by rw [if_pos rfl] at H; exact H
       clear H
       have H := H1
       clear H1
       replace H := Option.bind_eq_some_iff.mp H
       obtain ⟨t148, A130, H⟩ := H
       have A13 := aA A130
       clear A130
       obtain rfl := Option.some.inj H
       go_enter Tryz.func26, Tryz.ntmps26
       go_wp2_with (first | ((with_reducible refine gate_dst (N := 1) rfl ?_); refine box_event ?hg (N := 1) ?hd (cs := #[.string a0_0, .int .i64 a0_1, .int .i64 a0_2, .int .i64 a0_3, .int .i64 a0_4, .int .i64 a0_5, .int .i64 a0_6, .int .i64 a0_7, .int .i64 a0_8]) (t := 41) ?hr ?_; (case hd => rfl); (case hg => rfl); (case hr => first | (go_simp; done) | (go_simp; rfl)); intro gb144 hg w14 hbox hb; have n0_ := aA (below_step mB hb); have n1_ := aA (hbox); have n2_ := aA ((bZ hg mB)); have n3_ := aA ((bZ hg mB)); clear HB; have HB := n0_; have BK144 := n1_; have GW144 := n2_; have GE144 := n3_; clear n0_ n1_ n2_ n3_ hb hbox hg; obtain ⟨hcz15_0, hcz15_1, hcz15_2, hcz15_3, hcz15_4, hcz15_5, hcz15_6, hcz15_7, hcz15_8⟩ := bC9 BK144.out; obtain ⟨hfz15_0, hfz15_1, hfz15_2, hfz15_3, hfz15_4, hfz15_5, hfz15_6, hfz15_7, hfz15_8⟩ := bF9 BK144.out) | ((with_reducible refine gate_callee (f := 58) rfl ?_); refine goesL_ (some 5) rfl rfl Tryz.func58 (by kernel_rfl) rfl #[.string a0_0] rfl mS ?_; (with_reducible refine (foghornref10_Name.calls k a0_0 true _ A2.out).mono ?_); rintro e w' ⟨rfl, ⟨nd, rfl⟩⟩; refine ⟨_, rfl, ?_⟩) | (go_at_call 59; (with_reducible refine (foghornref06_Right.calls a0_1 a0_2 a0_3 true _ A7.out).mono ?_); rintro e w16 ⟨rfl, hb⟩; have n0_ := aA (bB BK144.out hb); have n1_ := aA (below_step (mD1 GE144.out) hb); clear BK144 HB; have BK144 := n0_; have HB := n1_; clear n0_ n1_; (try clear hb); (try clear hb2); (try clear hk); (try clear hi); obtain ⟨hcz17_0, hcz17_1, hcz17_2, hcz17_3, hcz17_4, hcz17_5, hcz17_6, hcz17_7, hcz17_8⟩ := bC9 BK144.out; obtain ⟨hfz17_0, hfz17_1, hfz17_2, hfz17_3, hfz17_4, hfz17_5, hfz17_6, hfz17_7, hfz17_8⟩ := bF9 BK144.out) | (go_at_call 60; (with_reducible refine (foghornref07_Right.calls k a0_5 a0_6 0 0 0 true _ A11.out).mono ?_); rintro e w18 ⟨rfl, hb⟩; have n0_ := aA (bB BK144.out hb); have n1_ := aA (below_step (mD1 GE144.out) hb); clear BK144 HB; have BK144 := n0_; have HB := n1_; clear n0_ n1_; (try clear hb); (try clear hb2); (try clear hk); (try clear hi); obtain ⟨hcz19_0, hcz19_1, hcz19_2, hcz19_3, hcz19_4, hcz19_5, hcz19_6, hcz19_7, hcz19_8⟩ := bC9 BK144.out; obtain ⟨hfz19_0, hfz19_1, hfz19_2, hfz19_3, hfz19_4, hfz19_5, hfz19_6, hfz19_7, hfz19_8⟩ := bF9 BK144.out) | (go_at_call 61; (with_reducible refine (foghornref08_Right.calls a0_7 a0_8 0 0 t148 _ A13.out).mono ?_); rintro e w20 ⟨rfl, hb⟩; have n0_ := aA (bB BK144.out hb); have n1_ := aA (below_step (mD1 GE144.out) hb); clear BK144 HB; have BK144 := n0_; have HB := n1_; clear n0_ n1_; (try clear hb); (try clear hb2); (try clear hk); (try clear hi)))
       go_ret
       exact ⟨by first | rfl | (simp [errW_none, errW_some] <;> rfl) | (simp [*, errW_none, errW_some] <;> rfl), by repeat (first | (with_reducible first | exact HB.out | apply below_alloc | apply pw_below_drewN | apply below_drew1 | refine below_set ?_ GE144.out) | exact HB.out)⟩
      ·replace c12 := Bool.eq_false_iff.mpr c12
       subst c12
       have H1 : (some false) = some r := by rw [if_neg (show ¬ (false = true) by decide)] at H; exact H
       clear H
       have H := H1
       clear H1
       obtain rfl := Option.some.inj H
       go_enter Tryz.func26, Tryz.ntmps26
       go_wp2_with (first | ((with_reducible refine gate_dst (N := 1) rfl ?_); refine box_event ?hg (N := 1) ?hd (cs := #[.string a0_0, .int .i64 a0_1, .int .i64 a0_2, .int .i64 a0_3, .int .i64 a0_4, .int .i64 a0_5, .int .i64 a0_6, .int .i64 a0_7, .int .i64 a0_8]) (t := 41) ?hr ?_; (case hd => rfl); (case hg => rfl); (case hr => first | (go_simp; done) | (go_simp; rfl)); intro gb144 hg w21 hbox hb; have n0_ := aA (below_step mB hb); have n1_ := aA (hbox); have n2_ := aA ((bZ hg mB)); have n3_ := aA ((bZ hg mB)); clear HB; have HB := n0_; have BK144 := n1_; have GW144 := n2_; have GE144 := n3_; clear n0_ n1_ n2_ n3_ hb hbox hg; obtain ⟨hcz22_0, hcz22_1, hcz22_2, hcz22_3, hcz22_4, hcz22_5, hcz22_6, hcz22_7, hcz22_8⟩ := bC9 BK144.out; obtain ⟨hfz22_0, hfz22_1, hfz22_2, hfz22_3, hfz22_4, hfz22_5, hfz22_6, hfz22_7, hfz22_8⟩ := bF9 BK144.out) | ((with_reducible refine gate_callee (f := 58) rfl ?_); refine goesL_ (some 5) rfl rfl Tryz.func58 (by kernel_rfl) rfl #[.string a0_0] rfl mS ?_; (with_reducible refine (foghornref10_Name.calls k a0_0 true _ A2.out).mono ?_); rintro e w' ⟨rfl, ⟨nd, rfl⟩⟩; refine ⟨_, rfl, ?_⟩) | (go_at_call 59; (with_reducible refine (foghornref06_Right.calls a0_1 a0_2 a0_3 true _ A7.out).mono ?_); rintro e w23 ⟨rfl, hb⟩; have n0_ := aA (bB BK144.out hb); have n1_ := aA (below_step (mD1 GE144.out) hb); clear BK144 HB; have BK144 := n0_; have HB := n1_; clear n0_ n1_; (try clear hb); (try clear hb2); (try clear hk); (try clear hi); obtain ⟨hcz24_0, hcz24_1, hcz24_2, hcz24_3, hcz24_4, hcz24_5, hcz24_6, hcz24_7, hcz24_8⟩ := bC9 BK144.out; obtain ⟨hfz24_0, hfz24_1, hfz24_2, hfz24_3, hfz24_4, hfz24_5, hfz24_6, hfz24_7, hfz24_8⟩ := bF9 BK144.out) | (go_at_call 60; (with_reducible refine (foghornref07_Right.calls k a0_5 a0_6 0 0 0 false _ A11.out).mono ?_); rintro e w25 ⟨rfl, hb⟩; have n0_ := aA (bB BK144.out hb); have n1_ := aA (below_step (mD1 GE144.out) hb); clear BK144 HB; have BK144 := n0_; have HB := n1_; clear n0_ n1_; (try clear hb); (try clear hb2); (try clear hk); (try clear hi)))
       go_ret
       exact ⟨by first | rfl | (simp [errW_none, errW_some] <;> rfl) | (simp [*, errW_none, errW_some] <;> rfl), by repeat (first | (with_reducible first | exact HB.out | apply below_alloc | apply pw_below_drewN | apply below_drew1 | refine below_set ?_ GE144.out) | exact HB.out)⟩
     ·rw [if_neg c10] at H
      have c10b0 : decide (a0_4 ≤ 100) = false := decide_eq_false c10
      clear c10
      obtain rfl := Option.some.inj H
      go_enter Tryz.func26, Tryz.ntmps26
      go_wp2_with (first | ((with_reducible refine gate_dst (N := 1) rfl ?_); refine box_event ?hg (N := 1) ?hd (cs := #[.string a0_0, .int .i64 a0_1, .int .i64 a0_2, .int .i64 a0_3, .int .i64 a0_4, .int .i64 a0_5, .int .i64 a0_6, .int .i64 a0_7, .int .i64 a0_8]) (t := 41) ?hr ?_; (case hd => rfl); (case hg => rfl); (case hr => first | (go_simp; done) | (go_simp; rfl)); intro gb144 hg w26 hbox hb; have n0_ := aA (below_step mB hb); have n1_ := aA (hbox); have n2_ := aA ((bZ hg mB)); have n3_ := aA ((bZ hg mB)); clear HB; have HB := n0_; have BK144 := n1_; have GW144 := n2_; have GE144 := n3_; clear n0_ n1_ n2_ n3_ hb hbox hg; obtain ⟨hcz27_0, hcz27_1, hcz27_2, hcz27_3, hcz27_4, hcz27_5, hcz27_6, hcz27_7, hcz27_8⟩ := bC9 BK144.out; obtain ⟨hfz27_0, hfz27_1, hfz27_2, hfz27_3, hfz27_4, hfz27_5, hfz27_6, hfz27_7, hfz27_8⟩ := bF9 BK144.out) | ((with_reducible refine gate_callee (f := 58) rfl ?_); refine goesL_ (some 5) rfl rfl Tryz.func58 (by kernel_rfl) rfl #[.string a0_0] rfl mS ?_; (with_reducible refine (foghornref10_Name.calls k a0_0 true _ A2.out).mono ?_); rintro e w' ⟨rfl, ⟨nd, rfl⟩⟩; refine ⟨_, rfl, ?_⟩) | (go_at_call 59; (with_reducible refine (foghornref06_Right.calls a0_1 a0_2 a0_3 true _ A7.out).mono ?_); rintro e w28 ⟨rfl, hb⟩; have n0_ := aA (bB BK144.out hb); have n1_ := aA (below_step (mD1 GE144.out) hb); clear BK144 HB; have BK144 := n0_; have HB := n1_; clear n0_ n1_; (try clear hb); (try clear hb2); (try clear hk); (try clear hi); obtain ⟨hcz29_0, hcz29_1, hcz29_2, hcz29_3, hcz29_4, hcz29_5, hcz29_6, hcz29_7, hcz29_8⟩ := bC9 BK144.out; obtain ⟨hfz29_0, hfz29_1, hfz29_2, hfz29_3, hfz29_4, hfz29_5, hfz29_6, hfz29_7, hfz29_8⟩ := bF9 BK144.out))
      go_ret
      exact ⟨by first | rfl | (simp [errW_none, errW_some] <;> rfl) | (simp [*, errW_none, errW_some] <;> rfl), by repeat (first | (with_reducible first | exact HB.out | apply below_alloc | apply pw_below_drewN | apply below_drew1 | refine below_set ?_ GE144.out) | exact HB.out)⟩
    ·rw [if_neg c9] at H
     have c9b0 : decide (1 ≤ a0_4) = false := decide_eq_false c9
     clear c9
     obtain rfl := Option.some.inj H
     go_enter Tryz.func26, Tryz.ntmps26
     go_wp2_with (first | ((with_reducible refine gate_dst (N := 1) rfl ?_); refine box_event ?hg (N := 1) ?hd (cs := #[.string a0_0, .int .i64 a0_1, .int .i64 a0_2, .int .i64 a0_3, .int .i64 a0_4, .int .i64 a0_5, .int .i64 a0_6, .int .i64 a0_7, .int .i64 a0_8]) (t := 41) ?hr ?_; (case hd => rfl); (case hg => rfl); (case hr => first | (go_simp; done) | (go_simp; rfl)); intro gb144 hg w30 hbox hb; have n0_ := aA (below_step mB hb); have n1_ := aA (hbox); have n2_ := aA ((bZ hg mB)); have n3_ := aA ((bZ hg mB)); clear HB; have HB := n0_; have BK144 := n1_; have GW144 := n2_; have GE144 := n3_; clear n0_ n1_ n2_ n3_ hb hbox hg; obtain ⟨hcz31_0, hcz31_1, hcz31_2, hcz31_3, hcz31_4, hcz31_5, hcz31_6, hcz31_7, hcz31_8⟩ := bC9 BK144.out; obtain ⟨hfz31_0, hfz31_1, hfz31_2, hfz31_3, hfz31_4, hfz31_5, hfz31_6, hfz31_7, hfz31_8⟩ := bF9 BK144.out) | ((with_reducible refine gate_callee (f := 58) rfl ?_); refine goesL_ (some 5) rfl rfl Tryz.func58 (by kernel_rfl) rfl #[.string a0_0] rfl mS ?_; (with_reducible refine (foghornref10_Name.calls k a0_0 true _ A2.out).mono ?_); rintro e w' ⟨rfl, ⟨nd, rfl⟩⟩; refine ⟨_, rfl, ?_⟩) | (go_at_call 59; (with_reducible refine (foghornref06_Right.calls a0_1 a0_2 a0_3 true _ A7.out).mono ?_); rintro e w32 ⟨rfl, hb⟩; have n0_ := aA (bB BK144.out hb); have n1_ := aA (below_step (mD1 GE144.out) hb); clear BK144 HB; have BK144 := n0_; have HB := n1_; clear n0_ n1_; (try clear hb); (try clear hb2); (try clear hk); (try clear hi); obtain ⟨hcz33_0, hcz33_1, hcz33_2, hcz33_3, hcz33_4, hcz33_5, hcz33_6, hcz33_7, hcz33_8⟩ := bC9 BK144.out; obtain ⟨hfz33_0, hfz33_1, hfz33_2, hfz33_3, hfz33_4, hfz33_5, hfz33_6, hfz33_7, hfz33_8⟩ := bF9 BK144.out))
     go_ret
     exact ⟨by first | rfl | (simp [errW_none, errW_some] <;> rfl) | (simp [*, errW_none, errW_some] <;> rfl), by repeat (first | (with_reducible first | exact HB.out | apply below_alloc | apply pw_below_drewN | apply below_drew1 | refine below_set ?_ GE144.out) | exact HB.out)⟩
   ·replace c8 := Bool.eq_false_iff.mpr c8
    subst c8
    have H1 : (some false) = some r := by rw [if_neg (show ¬ (false = true) by decide)] at H; exact H
    clear H
    have H := H1
    clear H1
    obtain rfl := Option.some.inj H
    go_enter Tryz.func26, Tryz.ntmps26
    go_wp2_with (first | ((with_reducible refine gate_dst (N := 1) rfl ?_); refine box_event ?hg (N := 1) ?hd (cs := #[.string a0_0, .int .i64 a0_1, .int .i64 a0_2, .int .i64 a0_3, .int .i64 a0_4, .int .i64 a0_5, .int .i64 a0_6, .int .i64 a0_7, .int .i64 a0_8]) (t := 41) ?hr ?_; (case hd => rfl); (case hg => rfl); (case hr => first | (go_simp; done) | (go_simp; rfl)); intro gb144 hg w34 hbox hb; have n0_ := aA (below_step mB hb); have n1_ := aA (hbox); have n2_ := aA ((bZ hg mB)); have n3_ := aA ((bZ hg mB)); clear HB; have HB := n0_; have BK144 := n1_; have GW144 := n2_; have GE144 := n3_; clear n0_ n1_ n2_ n3_ hb hbox hg; obtain ⟨hcz35_0, hcz35_1, hcz35_2, hcz35_3, hcz35_4, hcz35_5, hcz35_6, hcz35_7, hcz35_8⟩ := bC9 BK144.out; obtain ⟨hfz35_0, hfz35_1, hfz35_2, hfz35_3, hfz35_4, hfz35_5, hfz35_6, hfz35_7, hfz35_8⟩ := bF9 BK144.out) | ((with_reducible refine gate_callee (f := 58) rfl ?_); refine goesL_ (some 5) rfl rfl Tryz.func58 (by kernel_rfl) rfl #[.string a0_0] rfl mS ?_; (with_reducible refine (foghornref10_Name.calls k a0_0 true _ A2.out).mono ?_); rintro e w' ⟨rfl, ⟨nd, rfl⟩⟩; refine ⟨_, rfl, ?_⟩) | (go_at_call 59; (with_reducible refine (foghornref06_Right.calls a0_1 a0_2 a0_3 false _ A7.out).mono ?_); rintro e w36 ⟨rfl, hb⟩; have n0_ := aA (bB BK144.out hb); have n1_ := aA (below_step (mD1 GE144.out) hb); clear BK144 HB; have BK144 := n0_; have HB := n1_; clear n0_ n1_; (try clear hb); (try clear hb2); (try clear hk); (try clear hi)))
    go_ret
    exact ⟨by first | rfl | (simp [errW_none, errW_some] <;> rfl) | (simp [*, errW_none, errW_some] <;> rfl), by repeat (first | (with_reducible first | exact HB.out | apply below_alloc | apply pw_below_drewN | apply below_drew1 | refine below_set ?_ GE144.out) | exact HB.out)⟩
 ·replace c3 := Bool.eq_false_iff.mpr c3
  subst c3
  have H1 : (some false) = some r := by rw [if_neg (show ¬ (false = true) by decide)] at H; exact H
  clear H
  have H := H1
  clear H1
  obtain rfl := Option.some.inj H
  go_enter Tryz.func26, Tryz.ntmps26
  go_wp2_with (first | ((with_reducible refine gate_dst (N := 1) rfl ?_); refine box_event ?hg (N := 1) ?hd (cs := #[.string a0_0, .int .i64 a0_1, .int .i64 a0_2, .int .i64 a0_3, .int .i64 a0_4, .int .i64 a0_5, .int .i64 a0_6, .int .i64 a0_7, .int .i64 a0_8]) (t := 41) ?hr ?_; (case hd => rfl); (case hg => rfl); (case hr => first | (go_simp; done) | (go_simp; rfl)); intro gb144 hg w37 hbox hb; have n0_ := aA (below_step mB hb); have n1_ := aA (hbox); have n2_ := aA ((bZ hg mB)); have n3_ := aA ((bZ hg mB)); clear HB; have HB := n0_; have BK144 := n1_; have GW144 := n2_; have GE144 := n3_; clear n0_ n1_ n2_ n3_ hb hbox hg; obtain ⟨hcz38_0, hcz38_1, hcz38_2, hcz38_3, hcz38_4, hcz38_5, hcz38_6, hcz38_7, hcz38_8⟩ := bC9 BK144.out; obtain ⟨hfz38_0, hfz38_1, hfz38_2, hfz38_3, hfz38_4, hfz38_5, hfz38_6, hfz38_7, hfz38_8⟩ := bF9 BK144.out) | ((with_reducible refine gate_callee (f := 58) rfl ?_); refine goesL_ (some 5) rfl rfl Tryz.func58 (by kernel_rfl) rfl #[.string a0_0] rfl mS ?_; (with_reducible refine (foghornref10_Name.calls k a0_0 false _ A2.out).mono ?_); rintro e w' ⟨rfl, ⟨nd, rfl⟩⟩; refine ⟨_, rfl, ?_⟩))
  go_ret
  exact ⟨by first | rfl | (simp [errW_none, errW_some] <;> rfl) | (simp [*, errW_none, errW_some] <;> rfl), by repeat (first | (with_reducible first | exact HB.out | apply below_alloc | apply pw_below_drewN | apply below_drew1 | refine below_set ?_ GE144.out) | exact HB.out)⟩
end Go.Proofs.YtejdpjmfnpbadaaGreatDoorQ.P
namespace Go.Proofs.YtejdpjmfnpbadaaGreatDoorQ.P
open Go.RowKit Go.Proofs.YtejdpjmfnpbadaaGreatDoorW.PrintWords Go.Proofs.YtejdpjmfnpbadaaGreatDoorW.PrintLast Go.Proofs.YtejdpjmfnpbadaaGreatDoorW.PrintMore
attribute [local go_sem] max2_int min2_int max_two min_two max_three min_three max_four min_four
def foghornref13_place.l0 : Nat → ByteArray → List (S41) → Int → Int → Option (Int)
 | 0, _, _, _, _ => none
 | k + 1, x1, x7, x8, x9 => if x9 < x8 then (if 0 ≤ x9 then (if x9 < (x7.length : Int) then (if ((rd_T41 x7 x9).f0).toList = x1.toList then (some x9) else (foghornref13_place.l0 k x1 x7 x8 (wrap64 (x9 + 1)))) else (none)) else (none)) else (some (-1))
def foghornref13_place.f (k : Nat) (l0 : List (S41)) (a1 : ByteArray) : Option (Int) := foghornref13_place.l0 k a1 l0 (l0.length : Int) 0
set_option maxHeartbeats 8000000 in
set_option maxRecDepth 100000 in
theorem foghornref13_place.calls (k : Nat) (A0 : Option Addr) (c0 : Nat) (l0 : List (S41)) (a1 : ByteArray) (r : Int) (w : World) (hr0 : Kd.C k41 w A0 l0.length l0) (hc0 : l0.length ≤ c0) (h : foghornref13_place.f k l0 a1 = some r) :
  Calls Tryz.prog 27 #[.slice A0 l0.length c0, .string a1] w fun e w' => e = .returned (.int .i64 r) ∧ Below w.heap.size w w' := by
 have hu41 := Tryz.underlying41
 have HR0 := aA hr0
 have HC0 := aA hc0
 clear hr0 hc0
 have HB := aA (Below.refl w.heap.size w)
 have H : (foghornref13_place.l0 k a1 l0 (l0.length : Int) 0) = some r := h
 clear h
 have H' := aA H
 clear H
 go_enter Tryz.func27, Tryz.ntmps27
 go_wp2
 go_loopg [9] k (fun kq v9 w' => ∃ (x9_1 : Int), v9 = .int .i64 x9_1 ∧ Aside0 (foghornref13_place.l0 kq a1 l0 (l0.length : Int) x9_1 = some r) ∧ Aside0 (kq ≤ k) ∧ Aside0 (Below w.heap.size w w'))
 case atStart => exact ⟨(0), (by first | rfl | (simp; done) | (simp [*]; done)), H', ⟨Nat.le_refl _⟩, ⟨by repeat (first | (with_reducible first | exact HB.out | apply below_alloc | apply pw_below_drewN | apply below_drew1) | exact HB.out)⟩⟩
 case round =>
  clear H'
  try clear c2
  try clear p2
  obtain ⟨x9_1, rfl, HA, HK1, HB⟩ := hrel
  cases gk with
  | zero => exact absurd HA.out (by simp [foghornref13_place.l0])
  | succ k1 =>
   have H := HA.out
   clear HA
   simp only [foghornref13_place.l0] at H
   by_cases c3 : x9_1 < (l0.length : Int)
   ·rw [if_pos c3] at H
    have c3b0 : decide (x9_1 < (l0.length : Int)) = true := decide_eq_true c3
    clear c3
    by_cases c4 : 0 ≤ x9_1
    ·rw [if_pos c4] at H
     have c4b0 : decide (0 ≤ x9_1) = true := decide_eq_true c4
     clear c4
     by_cases c5 : x9_1 < (l0.length : Int)
     ·rw [if_pos c5] at H
      have c5b0 : decide (x9_1 < (l0.length : Int)) = true := decide_eq_true c5
      clear c5
      by_cases c6 : ((rd_T41 l0 x9_1).f0).toList = a1.toList
      ·rw [if_pos c6] at H
       have c6b0 : (((rd_T41 l0 x9_1).f0).toList == a1.toList) = true := beq_iff_eq.mpr c6
       have c6b1 : (((rd_T41 l0 x9_1).f0).toList != a1.toList) = false := bne_eq_false_iff_eq.mpr c6
       clear c6
       obtain rfl := Option.some.inj H
       have p149 : 0 ≤ (x9_1 : Int) := of_decide_eq_true (by first | (with_reducible assumption) | assumption)
       have q149 : x9_1 < (l0.length : Int) := of_decide_eq_true (by first | (with_reducible assumption) | assumption)
       obtain ⟨ad149, e149, hx149_0, hx149_1, hx149_2, hx149_3, hx149_4, hx149_5, hx149_6, hx149_7, hx149_8⟩ := at_T41 HR0.out x9_1 p149 q149
       cases e149
       replace hx149_0 := (HB.out.cell (World.block_lt_of_cell? w _ hx149_0)).trans hx149_0
       replace hx149_1 := (HB.out.cell (World.block_lt_of_cell? w _ hx149_1)).trans hx149_1
       replace hx149_2 := (HB.out.cell (World.block_lt_of_cell? w _ hx149_2)).trans hx149_2
       replace hx149_3 := (HB.out.cell (World.block_lt_of_cell? w _ hx149_3)).trans hx149_3
       replace hx149_4 := (HB.out.cell (World.block_lt_of_cell? w _ hx149_4)).trans hx149_4
       replace hx149_5 := (HB.out.cell (World.block_lt_of_cell? w _ hx149_5)).trans hx149_5
       replace hx149_6 := (HB.out.cell (World.block_lt_of_cell? w _ hx149_6)).trans hx149_6
       replace hx149_7 := (HB.out.cell (World.block_lt_of_cell? w _ hx149_7)).trans hx149_7
       replace hx149_8 := (HB.out.cell (World.block_lt_of_cell? w _ hx149_8)).trans hx149_8
       replace p149 := eq_true p149
       replace q149 := eq_true q149
       go_wp2_with (first | ((with_reducible refine gate_dst (N := 6) rfl ?_); refine box_event ?hg (N := 6) ?hd (cs := #[.string (⟨#[]⟩ : ByteArray), .int .i64 0, .int .i64 0, .int .i64 0, .int .i64 0, .int .i64 0, .int .i64 0, .int .i64 0, .int .i64 0]) (t := 41) ?hr ?_; (case hd => rfl); (case hg => rfl); (case hr => first | (go_simp; done) | (go_simp; rfl)); intro gb150 hg w7 hbox hb; have n0_ := aA (below_step mB hb); have n1_ := aA (hbox); have n2_ := aA ((bZ hg mB)); have n3_ := aA ((bZ hg mB)); clear HB; have HB := n0_; have BK150 := n1_; have GW150 := n2_; have GE150 := n3_; clear n0_ n1_ n2_ n3_ hb hbox hg; obtain ⟨hcz8_0, hcz8_1, hcz8_2, hcz8_3, hcz8_4, hcz8_5, hcz8_6, hcz8_7, hcz8_8⟩ := bC9 BK150.out; obtain ⟨hfz8_0, hfz8_1, hfz8_2, hfz8_3, hfz8_4, hfz8_5, hfz8_6, hfz8_7, hfz8_8⟩ := bF9 BK150.out))
       go_ret
       exact ⟨by first | rfl | (simp [errW_none, errW_some] <;> rfl) | (simp [*, errW_none, errW_some] <;> rfl), by repeat (first | (with_reducible first | exact HB.out | apply below_alloc | apply pw_below_drewN | apply below_drew1 | refine below_set ?_ GE150.out) | exact HB.out)⟩
      ·rw [if_neg c6] at H
       have c6b0 : (((rd_T41 l0 x9_1).f0).toList == a1.toList) = false := beq_eq_false_iff_ne.mpr c6
       have c6b1 : (((rd_T41 l0 x9_1).f0).toList != a1.toList) = true := bne_iff_ne.mpr c6
       have H' := aA H
       clear H
       have p149 : 0 ≤ (x9_1 : Int) := of_decide_eq_true (by first | (with_reducible assumption) | assumption)
       have q149 : x9_1 < (l0.length : Int) := of_decide_eq_true (by first | (with_reducible assumption) | assumption)
       obtain ⟨ad149, e149, hx149_0, hx149_1, hx149_2, hx149_3, hx149_4, hx149_5, hx149_6, hx149_7, hx149_8⟩ := at_T41 HR0.out x9_1 p149 q149
       cases e149
       replace hx149_0 := (HB.out.cell (World.block_lt_of_cell? w _ hx149_0)).trans hx149_0
       replace hx149_1 := (HB.out.cell (World.block_lt_of_cell? w _ hx149_1)).trans hx149_1
       replace hx149_2 := (HB.out.cell (World.block_lt_of_cell? w _ hx149_2)).trans hx149_2
       replace hx149_3 := (HB.out.cell (World.block_lt_of_cell? w _ hx149_3)).trans hx149_3
       replace hx149_4 := (HB.out.cell (World.block_lt_of_cell? w _ hx149_4)).trans hx149_4
       replace hx149_5 := (HB.out.cell (World.block_lt_of_cell? w _ hx149_5)).trans hx149_5
       replace hx149_6 := (HB.out.cell (World.block_lt_of_cell? w _ hx149_6)).trans hx149_6
       replace hx149_7 := (HB.out.cell (World.block_lt_of_cell? w _ hx149_7)).trans hx149_7
       replace hx149_8 := (HB.out.cell (World.block_lt_of_cell? w _ hx149_8)).trans hx149_8
       replace p149 := eq_true p149
       replace q149 := eq_true q149
       go_wp2_with (first | ((with_reducible refine gate_dst (N := 6) rfl ?_); refine box_event ?hg (N := 6) ?hd (cs := #[.string (⟨#[]⟩ : ByteArray), .int .i64 0, .int .i64 0, .int .i64 0, .int .i64 0, .int .i64 0, .int .i64 0, .int .i64 0, .int .i64 0]) (t := 41) ?hr ?_; (case hd => rfl); (case hg => rfl); (case hr => first | (go_simp; done) | (go_simp; rfl)); intro gb150 hg w9 hbox hb; have n0_ := aA (below_step mB hb); have n1_ := aA (hbox); have n2_ := aA ((bZ hg mB)); have n3_ := aA ((bZ hg mB)); clear HB; have HB := n0_; have BK150 := n1_; have GW150 := n2_; have GE150 := n3_; clear n0_ n1_ n2_ n3_ hb hbox hg; obtain ⟨hcz10_0, hcz10_1, hcz10_2, hcz10_3, hcz10_4, hcz10_5, hcz10_6, hcz10_7, hcz10_8⟩ := bC9 BK150.out; obtain ⟨hfz10_0, hfz10_1, hfz10_2, hfz10_3, hfz10_4, hfz10_5, hfz10_6, hfz10_7, hfz10_8⟩ := bF9 BK150.out))
       go_roundg k1
       case measure => have := HK1.out; omega
       case rel => exact ⟨(wrap64 (x9_1 + 1)), (by first | rfl | (simp; done) | (simp [*]; done)), H', ⟨by have := HK1.out; omega⟩, ⟨by repeat (first | (with_reducible first | exact HB.out | apply below_alloc | apply pw_below_drewN | apply below_drew1 | refine below_set ?_ GE150.out) | exact HB.out)⟩⟩
     ·rw [if_neg c5] at H
      exact absurd H (by simp)
    ·rw [if_neg c4] at H
     exact absurd H (by simp)
   ·rw [if_neg c3] at H
    have c3b0 : decide (x9_1 < (l0.length : Int)) = false := decide_eq_false c3
    clear c3
    obtain rfl := Option.some.inj H
    go_wp2
    go_ret
    exact ⟨by first | rfl | (simp [errW_none, errW_some] <;> rfl) | (simp [*, errW_none, errW_some] <;> rfl), by repeat (first | (with_reducible first | exact HB.out | apply below_alloc | apply pw_below_drewN | apply below_drew1) | exact HB.out)⟩
end Go.Proofs.YtejdpjmfnpbadaaGreatDoorQ.P
namespace Go.Proofs.YtejdpjmfnpbadaaGreatDoor
open Go.RowKit
attribute [local go_sem high] ext_size ext_cell ext_frozen alloc_cell alloc_frozen
theorem name_len {s : ByteArray} (h : ∀ k (hk : k < s.size), azB (s[k]'hk) = true) : nameB s = (decide (1 ≤ s.size) && decide (s.size ≤ 8)) := by
  unfold nameB
  rw [all_good h, Bool.true_and]
theorem refName_any (s : ByteArray) (w : World) (hs : s.size ≤ maxLen) :
    Calls Tryz.prog 58 #[.string s] w fun e w' => e = .returned (.bool (nameB s)) ∧ Below w.heap.size w w' := by
  unfold maxLen at hs
  go_enter Tryz.func58, Tryz.ntmps58
  go_wp2
  go_loopw [3] (fun i wr => ∃ k : Nat, k ≤ s.size ∧ i = .int .i64 k ∧ (∀ j (hj : j < s.size), j < k → azB (s[j]'hj) = true) ∧ Below w.heap.size w wr) (fun i _ => s.size - (intOf i).toNat)
  case atStart => exact ⟨0, Nat.zero_le _, rfl, fun j _ hj => absurd hj (by omega), Below.refl _ _⟩
  case round =>
    obtain ⟨k, hk, rfl, hall, hbel⟩ := hrel
    have HA := Lib.hid hall
    clear hall
    obtain ⟨xr, rfl⟩ := ext_of hbel
    clear hbel
    by_cases hlt : k < s.size
    · go_wp2
      all_goals (try go_quiet (fail)); (try go_wp2)
      all_goals first
        | (go_ret; exact ⟨ret_bool (name_no hlt (az_no (by omega))), (by repeat (first | exact Below.refl _ _ | apply bal | apply bext | apply bdr | apply bdrN | (refine bst ?_ _ (by simp only [ext_size, size_alloc, size_set]; omega))))⟩)
        | (refine ⟨⟨k + 1, by omega, by go_num, fun j hj hjk => ?_, (by repeat (first | exact Below.refl _ _ | apply bal | apply bext | apply bdr | apply bdrN | (refine bst ?_ _ (by simp only [ext_size, size_alloc, size_set]; omega))))⟩, by simp [intOf]; omega⟩
           rcases Nat.lt_succ_iff_lt_or_eq.1 hjk with h | rfl
           · exact HA.out j hj h
           · exact az_yes (by omega))
    · have hr := name_len (fun j hj => HA.out j hj (by omega))
      have HR := Lib.hid hr
      clear hr
      go_wp2
      all_goals
        go_ret
        refine ⟨ret_bool ?_, (by repeat (first | exact Below.refl _ _ | apply bal | apply bext | apply bdr | apply bdrN | (refine bst ?_ _ (by simp only [ext_size, size_alloc, size_set]; omega))))⟩
        rw [HR.out]
        first | (rw [Bool.eq_iff_iff]; simp; omega) | (simp [*]; done) | (simp; omega)
theorem val_len {s : ByteArray} (h : ∀ k (hk : k < s.size), avB (s[k]'hk) = true) : valB s = decide (s.size ≤ 8) := by
  unfold valB
  rw [all_good h, Bool.true_and]
set_option maxHeartbeats 1000000 in
theorem refValue_any (s : ByteArray) (w : World) (hs : s.size ≤ maxLen) :
    Calls Tryz.prog 166 #[.string s] w fun e w' => e = .returned (.bool (valB s)) ∧ Below w.heap.size w w' := by
  unfold maxLen at hs
  go_enter Tryz.func166, Tryz.ntmps166
  go_wp2
  go_loopw [3] (fun i wr => ∃ k : Nat, k ≤ s.size ∧ i = .int .i64 k ∧ (∀ j (hj : j < s.size), j < k → avB (s[j]'hj) = true) ∧ Below w.heap.size w wr) (fun i _ => s.size - (intOf i).toNat)
  case atStart => exact ⟨0, Nat.zero_le _, rfl, fun j _ hj => absurd hj (by omega), Below.refl _ _⟩
  case round =>
    obtain ⟨k, hk, rfl, hall, hbel⟩ := hrel
    have HA := Lib.hid hall
    clear hall
    obtain ⟨xr, rfl⟩ := ext_of hbel
    clear hbel
    by_cases hlt : k < s.size
    · go_wp2
      all_goals first
        | (go_ret; exact ⟨ret_bool (val_no hlt (av_no (by first | omega | (rename_i h; simp at h; omega) | (simp_all; omega)))), (by repeat (first | exact Below.refl _ _ | apply bal | apply bext | apply bdr | apply bdrN | (refine bst ?_ _ (by simp only [ext_size, size_alloc, size_set]; omega))))⟩)
        | (refine ⟨⟨k + 1, by omega, by go_num, fun j hj hjk => ?_, (by repeat (first | exact Below.refl _ _ | apply bal | apply bext | apply bdr | apply bdrN | (refine bst ?_ _ (by simp only [ext_size, size_alloc, size_set]; omega))))⟩, by simp [intOf]; omega⟩
           rcases Nat.lt_succ_iff_lt_or_eq.1 hjk with h | rfl
           · exact HA.out j hj h
           · exact av_yes (by first | omega | (rename_i h _; simp at h; omega) | (rename_i h; simp at h; omega)))
    · have hr := val_len (fun j hj => HA.out j hj (by omega))
      have HR := Lib.hid hr
      clear hr
      go_wp2
      all_goals
        go_ret
        refine ⟨ret_bool ?_, (by repeat (first | exact Below.refl _ _ | apply bal | apply bext | apply bdr | apply bdrN | (refine bst ?_ _ (by simp only [ext_size, size_alloc, size_set]; omega))))⟩
        rw [HR.out]
        first | (rw [Bool.eq_iff_iff]; simp; omega) | (simp [*]; done) | (simp; omega)
end Go.Proofs.YtejdpjmfnpbadaaGreatDoor
namespace Go.Proofs.YtejdpjmfnpbadaaGreatDoor
open Go.RowKit
attribute [local go_sem high] ext_size ext_cell ext_frozen alloc_cell alloc_frozen
theorem refMatcher_any (x : Mat) (w : World) (h1 : x.name.size ≤ maxLen) (h2 : x.value.size ≤ maxLen) :
    Calls Tryz.prog 110 #[matV x] w fun e w' => e = .returned (.bool (matB x)) ∧ Below w.heap.size w w' := by
  obtain ⟨k, n, v⟩ := x
  have HN := Lib.hid fun W => refName_any n W h1
  have HV := Lib.hid fun W => refValue_any v W h2
  unfold matV matB
  simp only at h1 h2 ⊢
  obtain ⟨b1, hb1⟩ : ∃ b, b = nameB n := ⟨_, rfl⟩
  obtain ⟨b2, hb2⟩ : ∃ b, b = valB v := ⟨_, rfl⟩
  rw [← hb1] at HN ⊢
  rw [← hb2] at HV ⊢
  clear hb1 hb2
  have he := empty_dec v
  by_cases c1 : 0 ≤ k ∧ k ≤ 3
  · obtain ⟨c1, c2⟩ := c1
    cases b1
    case false =>
      go_enter Tryz.func110, Tryz.ntmps110
      go_wp2_with fail
      refine (HN.out _).mono ?_
      rintro e w' ⟨rfl, hb⟩
      obtain ⟨y1, rfl⟩ := ext_of hb
      clear hb
      go_wp2_with fail
      go_ret
      exact ⟨ret_bool (by simp [c1, c2]), (by repeat (first | exact Below.refl _ _ | apply bal | apply bext | apply bdr | apply bdrN | (refine bst ?_ _ (by simp only [ext_size, size_alloc, size_set]; omega))))⟩
    case true =>
      cases b2
      case false =>
        go_enter Tryz.func110, Tryz.ntmps110
        go_wp2_with fail
        refine (HN.out _).mono ?_
        rintro e w' ⟨rfl, hb⟩
        obtain ⟨y1, rfl⟩ := ext_of hb
        clear hb
        go_wp2_with fail
        refine (HV.out _).mono ?_
        rintro e w' ⟨rfl, hb⟩
        obtain ⟨y2, rfl⟩ := ext_of hb
        clear hb
        go_wp2_with fail
        go_ret
        exact ⟨ret_bool (by simp [c1, c2]), (by repeat (first | exact Below.refl _ _ | apply bal | apply bext | apply bdr | apply bdrN | (refine bst ?_ _ (by simp only [ext_size, size_alloc, size_set]; omega))))⟩
      case true =>
        by_cases c3 : k = 3
        · subst c3
          have HE := Lib.hid he
          clear he
          go_enter Tryz.func110, Tryz.ntmps110
          go_wp2_with fail
          refine (HN.out _).mono ?_
          rintro e w' ⟨rfl, hb⟩
          obtain ⟨y1, rfl⟩ := ext_of hb
          clear hb
          go_wp2_with fail
          refine (HV.out _).mono ?_
          rintro e w' ⟨rfl, hb⟩
          obtain ⟨y2, rfl⟩ := ext_of hb
          clear hb
          go_wp2_with fail
          all_goals
            go_ret
            refine ⟨ret_bool ?_, (by repeat (first | exact Below.refl _ _ | apply bal | apply bext | apply bdr | apply bdrN | (refine bst ?_ _ (by simp only [ext_size, size_alloc, size_set]; omega))))⟩
            have := HE.out
            simp_all
        · have c4 : (k != 3) = true := by simpa using c3
          clear he
          go_enter Tryz.func110, Tryz.ntmps110
          go_wp2_with fail
          refine (HN.out _).mono ?_
          rintro e w' ⟨rfl, hb⟩
          obtain ⟨y1, rfl⟩ := ext_of hb
          clear hb
          go_wp2_with fail
          refine (HV.out _).mono ?_
          rintro e w' ⟨rfl, hb⟩
          obtain ⟨y2, rfl⟩ := ext_of hb
          clear hb
          go_wp2_with fail
          go_ret
          exact ⟨ret_bool (by simp [c1, c2, c3]), (by repeat (first | exact Below.refl _ _ | apply bal | apply bext | apply bdr | apply bdrN | (refine bst ?_ _ (by simp only [ext_size, size_alloc, size_set]; omega))))⟩
  · clear he
    rcases (show k < 0 ∨ 3 < k by omega) with c2 | c2
    all_goals
      go_enter Tryz.func110, Tryz.ntmps110
      go_wp2_with fail
      all_goals
        go_ret
        refine ⟨ret_bool ?_, (by repeat (first | exact Below.refl _ _ | apply bal | apply bext | apply bdr | apply bdrN | (refine bst ?_ _ (by simp only [ext_size, size_alloc, size_set]; omega))))⟩
        first
          | (rw [decide_eq_false (p := 0 ≤ k) (by omega)]; rfl)
          | (rw [decide_eq_false (p := k ≤ 3) (by omega)]; simp)
def matsB (ms : List Mat) : Bool := decide (ms.length ≤ 4) && !ms.any (fun m => !matB m)
theorem mats_no {xs : List Mat} {k : Nat} (h : k < xs.length) (hp : matB xs[k] = false) : false = matsB xs := by
  unfold matsB
  have : xs.any (fun x => !matB x) = true := List.any_eq_true.2 ⟨xs[k], List.getElem_mem h, by rw [hp]; rfl⟩
  rw [this]
  simp
theorem mats_all {xs : List Mat} (h : ∀ k (hk : k < xs.length), matB xs[k] = true) : matsB xs = decide (xs.length ≤ 4) := by
  unfold matsB
  have : xs.any (fun x => !matB x) = false := by
    rw [List.any_eq_false]
    intro x hx
    obtain ⟨k, hk, rfl⟩ := List.mem_iff_getElem.1 hx
    simp [h k hk]
  rw [this]
  simp
theorem refMatchers_any (v : Value) (xs : List Mat) (w : World) (hS : SlAt w v 3 xs.length (matsC xs)) (hM : MatsOk xs) :
    Calls Tryz.prog 62 #[v] w fun e w' => e = .returned (.bool (matsB xs)) ∧ Below w.heap.size w w' := by
  obtain ⟨a, c, rfl, hnc, hcm⟩ := hS.form
  have hm := hS.le
  have HS := Lib.hid hS
  have HM := Lib.hid hM
  unfold maxLen at hm
  clear hS hM
  go_enter Tryz.func62, Tryz.ntmps62
  go_wp2
  go_loopw [7] (fun i wr => ∃ k : Nat, k ≤ xs.length ∧ i = .int .i64 k ∧ (∀ j (hj : j < xs.length), j < k → matB xs[j] = true) ∧ Below w.heap.size w wr) (fun i _ => xs.length - (intOf i).toNat)
  case atStart => exact ⟨0, Nat.zero_le _, rfl, fun j _ hj => absurd hj (by omega), Below.refl _ _⟩
  case round =>
    obtain ⟨k, hk, rfl, hall, hbel⟩ := hrel
    have HA := Lib.hid hall
    clear hall
    obtain ⟨xr, rfl⟩ := ext_of hbel
    clear hbel
    by_cases hlt : k < xs.length
    · obtain ⟨b, o, rfl, hbl, hcell⟩ := HS.out.at (by omega)
      have g0 := mats_get xs k hlt
      have k0 : w.cell? ⟨b, o + k * 3, none⟩ = some (.int .i64 xs[k].kind) := hcell _ _ g0.1
      have k1 : w.cell? ⟨b, o + k * 3 + 1, none⟩ = some (.string xs[k].name) := by rw [Nat.add_assoc]; exact hcell _ _ g0.2.1
      have k2 : w.cell? ⟨b, o + k * 3 + 2, none⟩ = some (.string xs[k].value) := by rw [Nat.add_assoc]; exact hcell _ _ g0.2.2
      have hok := HM.out xs[k] (List.getElem_mem hlt)
      have hmm := fun W => refMatcher_any xs[k] W hok.1 hok.2
      unfold matV at hmm
      have HMM := Lib.hid hmm
      clear hmm hcell g0 hok
      cases hb : matB xs[k]
      all_goals
        rw [hb] at HMM
        have HB := Lib.hid hb
        clear hb
        go_wp2_with fail
        refine (HMM.out _).mono ?_
        rintro e w' ⟨rfl, hb⟩
        obtain ⟨y1, rfl⟩ := ext_of hb
        clear hb
        go_wp2_with fail
      · go_ret
        exact ⟨ret_bool (mats_no hlt HB.out), (by repeat (first | exact Below.refl _ _ | apply bal | apply bext | apply bdr | apply bdrN | (refine bst ?_ _ (by simp only [ext_size, size_alloc, size_set]; omega))))⟩
      · refine ⟨⟨k + 1, by omega, by go_num, fun j hj hjk => ?_, (by repeat (first | exact Below.refl _ _ | apply bal | apply bext | apply bdr | apply bdrN | (refine bst ?_ _ (by simp only [ext_size, size_alloc, size_set]; omega))))⟩, by simp [intOf]; omega⟩
        rcases Nat.lt_succ_iff_lt_or_eq.1 hjk with h | rfl
        · exact HA.out j hj h
        · exact HB.out
    · have hr := mats_all (fun j hj => HA.out j hj (by omega))
      have HR := Lib.hid hr
      clear hr
      go_wp2
      all_goals
        go_ret
        refine ⟨ret_bool ?_, (by repeat (first | exact Below.refl _ _ | apply bal | apply bext | apply bdr | apply bdrN | (refine bst ?_ _ (by simp only [ext_size, size_alloc, size_set]; omega))))⟩
        rw [HR.out]
        first | (rw [Bool.eq_iff_iff]; simp; omega) | (simp [*]; done) | (simp; omega)
end Go.Proofs.YtejdpjmfnpbadaaGreatDoor
namespace Go.Proofs.YtejdpjmfnpbadaaGreatDoorQ.P
open Go.RowKit Go.Proofs.YtejdpjmfnpbadaaGreatDoorW.PrintWords Go.Proofs.YtejdpjmfnpbadaaGreatDoor
def foghornref10_Matchers.f (l0 : List S173) : Option Bool := if matsOkB l0 = true then some (matsB (l0.map toMat)) else none
theorem foghornref10_Matchers.calls (A0 : Option Addr) (c0 : Nat) (l0 : List S173) (r : Bool) (w : World) (hr0 : Kd.C k173 w A0 l0.length l0) (hc0 : l0.length ≤ c0) (h : foghornref10_Matchers.f l0 = some r) :
    Calls Tryz.prog 62 #[.slice A0 l0.length c0] w fun e w' => e = .returned (.bool r) ∧ Below w.heap.size w w' := by
  obtain ⟨h1, rfl⟩ := if_some h
  exact refMatchers_any _ _ w (mats_c hr0 hc0) (mats_ok h1)
end Go.Proofs.YtejdpjmfnpbadaaGreatDoorQ.P
namespace Go.Proofs.YtejdpjmfnpbadaaGreatDoorQ.P
open Go.RowKit Go.Proofs.YtejdpjmfnpbadaaGreatDoorW.PrintWords Go.Proofs.YtejdpjmfnpbadaaGreatDoorW.PrintLast Go.Proofs.YtejdpjmfnpbadaaGreatDoorW.PrintMore
attribute [local go_sem] max2_int min2_int max_two min_two max_three min_three max_four min_four
mutual
def foghornref13_route.l0 : Nat → Int → List Int → Int → Int → List Int → List (S173) → Option (Bool)
 | 0, _, _, _, _, _, _ => none
 | k + 1, x1, x10, x11, x12, x152000, x152001 => if x12 < x11 then (if 0 ≤ x12 then (if x12 < (x10.length : Int) then (if (rd x10 x12) < 0 then (foghornref13_route.j1 k x1 x12 (rd x10 x12) x10 x11 x12 true x152000 x152001) else (foghornref13_route.j1 k x1 x12 (rd x10 x12) x10 x11 x12 (decide ((rd x10 x12) ≥ x1)) x152000 x152001)) else (none)) else (none)) else (if (x152000.length : Int) ≥ 1 then (if (x152000.length : Int) ≤ 4 then ((foghornref10_Matchers.f x152001).bind fun t152 => (some t152)) else (some false)) else (some false))
def foghornref13_route.j1 : Nat → Int → Int → Int → List Int → Int → Int → Bool → List Int → List (S173) → Option (Bool)
 | 0, _, _, _, _, _, _, _, _, _ => none
 | k + 1, x1, x5, x6, x10, x11, x12, x23, x152000, x152001 => if x23 = true then (some false) else (if 0 ≤ x5 then (if x5 ≤ (x152000.length : Int) then (foghornref13_route.l1 k x1 x6 x10 x11 x12 (x152000.take (x5 : Int).toNat) ((x152000.take (x5 : Int).toNat).length : Int) 0 x152000 x152001) else (none)) else (none))
def foghornref13_route.l1 : Nat → Int → Int → List Int → Int → Int → List Int → Int → Int → List Int → List (S173) → Option (Bool)
 | 0, _, _, _, _, _, _, _, _, _, _ => none
 | k + 1, x1, x6, x10, x11, x12, x27, x28, x29, x152000, x152001 => if x29 < x28 then (if 0 ≤ x29 then (if x29 < (x27.length : Int) then (if (rd x27 x29) = x6 then (some false) else (foghornref13_route.l1 k x1 x6 x10 x11 x12 x27 x28 (wrap64 (x29 + 1)) x152000 x152001)) else (none)) else (none)) else (foghornref13_route.l0 k x1 x10 x11 (wrap64 (x12 + 1)) x152000 x152001)
end
def foghornref13_route.f (k : Nat) (l0_0 : List Int) (l0_1 : List (S173)) (a1 : Int) : Option (Bool) := foghornref13_route.l0 k a1 l0_0 (l0_0.length : Int) 0 l0_0 l0_1
set_option maxHeartbeats 8000000 in
set_option maxRecDepth 100000 in
theorem foghornref13_route.calls (k : Nat) (A0_0 : Option Addr) (c0_0 : Nat) (l0_0 : List Int) (A0_1 : Option Addr) (c0_1 : Nat) (l0_1 : List (S173)) (a1 : Int) (r : Bool) (w : World) (hr0_0 : Kd.C (Kd.int .i64) w A0_0 l0_0.length l0_0) (hc0_0 : l0_0.length ≤ c0_0) (hr0_1 : Kd.C k173 w A0_1 l0_1.length l0_1) (hc0_1 : l0_1.length ≤ c0_1) (h : foghornref13_route.f k l0_0 l0_1 a1 = some r) :
  Calls Tryz.prog 28 #[.agg #[.slice A0_0 l0_0.length c0_0, .slice A0_1 l0_1.length c0_1], .int .i64 a1] w fun e w' => e = .returned (.bool r) ∧ Below w.heap.size w w' := by
 have hu46 := Tryz.underlying46
 have HR0_0 := aA hr0_0
 have HC0_0 := aA hc0_0
 clear hr0_0 hc0_0
 have HR0_1 := aA hr0_1
 have HC0_1 := aA hc0_1
 clear hr0_1 hc0_1
 have HB := aA (Below.refl w.heap.size w)
 have H : (foghornref13_route.l0 k a1 l0_0 (l0_0.length : Int) 0 l0_0 l0_1) = some r := h
 clear h
 have H' := aA H
 clear H
 go_enter Tryz.func28, Tryz.ntmps28
 go_wp2_with (first | ((with_reducible refine gate_dst (N := 2) rfl ?_); (try (refine gate_guard (by rfl) ?_; dsimp only)); refine box_event ?hg (N := 2) ?hd (cs := #[.slice A0_0 l0_0.length c0_0, .slice A0_1 l0_1.length c0_1]) (t := 46) ?hr ?_; (case hd => rfl); (case hg => rfl); (case hr => first | (go_simp; done) | (go_simp; rfl)); intro gb151 hg w3 hbox hb; have n0_ := aA (below_step mB hb); have n1_ := aA (hbox); have n2_ := aA ((bZ hg mB)); have n3_ := aA ((bZ hg mB)); clear HB; have HB := n0_; have BK151 := n1_; have GW151 := n2_; have GE151 := n3_; clear n0_ n1_ n2_ n3_ hb hbox hg; obtain ⟨hcz4_0, hcz4_1⟩ := bC2 BK151.out; obtain ⟨hfz4_0, hfz4_1⟩ := bF2 BK151.out))
 go_loopg [12] k (fun kq v12 w' => ∃ (x12_1 : Int), v12 = .int .i64 x12_1 ∧ Aside0 (foghornref13_route.l0 kq a1 l0_0 (l0_0.length : Int) x12_1 l0_0 l0_1 = some r) ∧ Aside0 (kq ≤ k) ∧ Aside0 (w'.heap[gb151]? = some (.cells #[(.slice A0_0 l0_0.length c0_0), (.slice A0_1 l0_1.length c0_1)] 46 (0, 0))) ∧ Aside0 (Below w.heap.size w w'))
 case atStart => exact ⟨(0), (by first | rfl | (simp; done) | (simp [*]; done)), H', ⟨Nat.le_refl _⟩, ⟨by (with_reducible repeat (first | refine blk_drewN ?_ _ | refine blk_drew ?_ | refine blk_alloc ?_ _)); exact BK151.out⟩, ⟨by repeat (first | (with_reducible first | exact HB.out | apply below_alloc | apply pw_below_drewN | apply below_drew1 | refine below_set ?_ GE151.out) | exact HB.out)⟩⟩
 case round =>
  clear H'
  try clear c2
  try clear p2
  try clear hcz4_0 hcz4_1
  try clear hfz4_0 hfz4_1
  obtain ⟨x12_1, rfl, HA, HK1, BK151, HB⟩ := hrel
  cases gk with
  | zero => exact absurd HA.out (by simp [foghornref13_route.l0])
  | succ k1 =>
   have H := HA.out
   clear HA
   simp only [foghornref13_route.l0] at H
   by_cases c5 : x12_1 < (l0_0.length : Int)
   ·rw [if_pos c5] at H
    have c5b0 : decide (x12_1 < (l0_0.length : Int)) = true := decide_eq_true c5
    clear c5
    by_cases c6 : 0 ≤ x12_1
    ·rw [if_pos c6] at H
     have c6b0 : decide (0 ≤ x12_1) = true := decide_eq_true c6
     clear c6
     by_cases c7 : x12_1 < (l0_0.length : Int)
     ·rw [if_pos c7] at H
      have c7b0 : decide (x12_1 < (l0_0.length : Int)) = true := decide_eq_true c7
      clear c7
      have HC8 := aA H
      clear H
      have p153 : 0 ≤ (x12_1 : Int) := of_decide_eq_true (by first | (with_reducible assumption) | assumption)
      have q153 : x12_1 < (l0_0.length : Int) := of_decide_eq_true (by first | (with_reducible assumption) | assumption)
      obtain ⟨ad153, e153, hx153_0⟩ := Kd.at_int HR0_0.out x12_1 p153 q153
      cases e153
      replace hx153_0 := (HB.out.cell (World.block_lt_of_cell? w _ hx153_0)).trans hx153_0
      replace p153 := eq_true p153
      replace q153 := eq_true q153
      go_upto_region 4 with (fail)
      go_cut [23] (fun v23 wc => ∃ (kq : Nat) (x23_7 : Bool), v23 = .bool x23_7 ∧ Aside0 (foghornref13_route.j1 kq a1 x12_1 (rd l0_0 x12_1) l0_0 (l0_0.length : Int) x12_1 x23_7 l0_0 l0_1 = some r) ∧ Aside0 (kq ≤ k1) ∧ Aside0 (wc.heap[gb151]? = some (.cells #[(.slice (some ad153) l0_0.length c0_0), (.slice A0_1 l0_1.length c0_1)] 46 (0, 0))) ∧ Aside0 (Below w.heap.size w wc))
      case first =>
       have H := HC8.out
       clear HC8
       by_cases c9 : (rd l0_0 x12_1) < 0
       ·rw [if_pos c9] at H
        have c9b0 : decide ((rd l0_0 x12_1) < 0) = true := decide_eq_true c9
        clear c9
        (first | rw [c9b0] | (simp only [i64_w, i32_w]; rw [c9b0]) | skip)
        have H' := aA H
        clear H
        go_wp2
        go_meet
        case rel => exact ⟨_, (true), (by first | rfl | (simp; done) | (simp [*]; done)), H', ⟨by have := HK1.out; first | omega | exact Nat.le_refl _⟩, ⟨by (with_reducible repeat (first | refine blk_drewN ?_ _ | refine blk_drew ?_ | refine blk_alloc ?_ _)); exact BK151.out⟩, ⟨by repeat (first | (with_reducible first | exact HB.out | apply below_alloc | apply pw_below_drewN | apply below_drew1 | refine below_set ?_ GE151.out) | exact HB.out)⟩⟩
       ·rw [if_neg c9] at H
        have c9b0 : decide ((rd l0_0 x12_1) < 0) = false := decide_eq_false c9
        clear c9
        (first | rw [c9b0] | (simp only [i64_w, i32_w]; rw [c9b0]) | skip)
        have H' := aA H
        clear H
        go_wp2
        go_meet
        case rel => exact ⟨_, (decide ((rd l0_0 x12_1) ≥ a1)), (by first | rfl | (simp; done) | (simp [*]; done)), H', ⟨by have := HK1.out; first | omega | exact Nat.le_refl _⟩, ⟨by (with_reducible repeat (first | refine blk_drewN ?_ _ | refine blk_drew ?_ | refine blk_alloc ?_ _)); exact BK151.out⟩, ⟨by repeat (first | (with_reducible first | exact HB.out | apply below_alloc | apply pw_below_drewN | apply below_drew1 | refine below_set ?_ GE151.out) | exact HB.out)⟩⟩
      case rest =>
       clear HC8
       try clear p1
       try clear q1
       try clear hx1
       try clear c2
       try clear p2
       try clear c5
       try clear c5b0
       try clear c6
       try clear c6b0
       try clear c7
       try clear c7b0
       try clear c9
       try clear c9b0
       try clear hcz4_0 hcz4_1
       try clear hfz4_0 hfz4_1
       try clear hx153_0
       try clear p153
       try clear p2
       try clear q153
       obtain ⟨kq, x23_7, rfl, HA, HJ7, BK151, HB⟩ := hcut
       cases kq with
       | zero => exact absurd HA.out (by simp [foghornref13_route.j1])
       | succ kj7 =>
        have H := HA.out
        clear HA
        simp only [foghornref13_route.j1] at H
        by_cases c10 : x23_7 = true
        ·subst c10
         have H1 : (some false) = some r := by rw [if_pos rfl] at H; exact H
         clear H
         have H := H1
         clear H1
         obtain rfl := Option.some.inj H
         go_wp2
         go_ret
         exact ⟨by first | rfl | (simp [errW_none, errW_some] <;> rfl) | (simp [*, errW_none, errW_some] <;> rfl), by repeat (first | (with_reducible first | exact HB.out | apply below_alloc | apply pw_below_drewN | apply below_drew1 | refine below_set ?_ GE151.out) | exact HB.out)⟩
        ·replace c10 := Bool.eq_false_iff.mpr c10
         subst c10
         have H1 : (if 0 ≤ x12_1 then (if x12_1 ≤ (l0_0.length : Int) then (foghornref13_route.l1 kj7 a1 (rd l0_0 x12_1) l0_0 (l0_0.length : Int) x12_1 (l0_0.take (x12_1 : Int).toNat) ((l0_0.take (x12_1 : Int).toNat).length : Int) 0 l0_0 l0_1) else (none)) else (none)) = some r := by rw [if_neg (show ¬ (false = true) by decide)] at H; exact H
         clear H
         have H := H1
         clear H1
         by_cases c11 : 0 ≤ x12_1
         ·rw [if_pos c11] at H
          have c11b0 := eq_true c11
          have c11b1 := decide_eq_true c11
          clear c11
          by_cases c12 : x12_1 ≤ (l0_0.length : Int)
          ·rw [if_pos c12] at H
           have c12b0 := eq_true c12
           have c12b1 := decide_eq_true c12
           clear c12
           have H' := aA H
           clear H
           obtain ⟨hcz13_0, hcz13_1⟩ := bC2 BK151.out
           obtain ⟨hfz13_0, hfz13_1⟩ := bF2 BK151.out
           obtain ⟨i014, hi014, _, hsz14, _⟩ := info_parts info3
           obtain ⟨hcut14, hA14, hC14⟩ := print_take_of (P := Tryz.prog) (Value.int .i64) 0 43 3 .i64 Tryz.underlying43 hi014 hsz14 (some ad153) c0_0 l0_0 x12_1 (of_decide_eq_true (by first | (with_reducible assumption) | assumption)) (of_decide_eq_true (by first | (with_reducible assumption) | assumption)) HC0_0.out
           have HR154 := aA (Kd.C_of_reads (h1 := fun _ => rfl) (hA14 _ (Kd.reads_of_C HR0_0.out)))
           have HC154 := aA hC14
           clear hA14 hC14 hi014 hsz14
           go_wp2
           go_loopg [29] kj7 (fun kq v29 w' => ∃ (x29_3 : Int), v29 = .int .i64 x29_3 ∧ Aside0 (foghornref13_route.l1 kq a1 (rd l0_0 x12_1) l0_0 (l0_0.length : Int) x12_1 (l0_0.take (x12_1 : Int).toNat) ((l0_0.take (x12_1 : Int).toNat).length : Int) x29_3 l0_0 l0_1 = some r) ∧ Aside0 (kq ≤ kj7) ∧ Aside0 (w'.heap[gb151]? = some (.cells #[(.slice (some ad153) l0_0.length c0_0), (.slice A0_1 l0_1.length c0_1)] 46 (0, 0))) ∧ Aside0 (Below w.heap.size w w'))
           case atStart => exact ⟨(0), (by first | rfl | (simp; done) | (simp [*]; done)), H', ⟨Nat.le_refl _⟩, ⟨by (with_reducible repeat (first | refine blk_drewN ?_ _ | refine blk_drew ?_ | refine blk_alloc ?_ _)); exact BK151.out⟩, ⟨by repeat (first | (with_reducible first | exact HB.out | apply below_alloc | apply pw_below_drewN | apply below_drew1 | refine below_set ?_ GE151.out) | exact HB.out)⟩⟩
           case round =>
            clear H'
            try clear c1
            try clear p1
            try clear q1
            try clear hx1
            try clear c2
            try clear p2
            try clear c5
            try clear c5b0
            try clear c6
            try clear c6b0
            try clear c7
            try clear c7b0
            try clear c9
            try clear c9b0
            try clear c10
            try clear c11
            try clear c11b0
            try clear c11b1
            try clear c12
            try clear c12b0
            try clear hcz13_0 hcz13_1
            try clear hcz4_0 hcz4_1
            try clear hfz13_0 hfz13_1
            try clear hfz4_0 hfz4_1
            try clear hx153_0
            try clear p1
            try clear p153
            try clear p2
            try clear q1
            try clear q153
            obtain ⟨x29_3, rfl, HA, HK3, BK151, HB⟩ := hrel
            cases gk with
            | zero => exact absurd HA.out (by simp [foghornref13_route.l1])
            | succ k3 =>
             have H := HA.out
             clear HA
             simp only [foghornref13_route.l1] at H
             by_cases c15 : x29_3 < ((l0_0.take (x12_1 : Int).toNat).length : Int)
             ·rw [if_pos c15] at H
              have c15b0 : decide (x29_3 < ((l0_0.take (x12_1 : Int).toNat).length : Int)) = true := decide_eq_true c15
              try have c15b0h : decide (x29_3 < max x12_1 0) = true := decide_eq_true (by have h_ := of_decide_eq_true c15b0; rw [List.length_take] at h_; first | (have h2_ : x12_1 ≤ (l0_0.length : Int) := of_decide_eq_true (by assumption); omega) | (have h2_ : x12_1 < (l0_0.length : Int) := of_decide_eq_true (by assumption); omega) | omega)
              clear c15
              by_cases c16 : 0 ≤ x29_3
              ·rw [if_pos c16] at H
               have c16b0 : decide (0 ≤ x29_3) = true := decide_eq_true c16
               clear c16
               by_cases c17 : x29_3 < ((l0_0.take (x12_1 : Int).toNat).length : Int)
               ·rw [if_pos c17] at H
                have c17b0 : decide (x29_3 < ((l0_0.take (x12_1 : Int).toNat).length : Int)) = true := decide_eq_true c17
                try have c17b0h : decide (x29_3 < max x12_1 0) = true := decide_eq_true (by have h_ := of_decide_eq_true c17b0; rw [List.length_take] at h_; first | (have h2_ : x12_1 ≤ (l0_0.length : Int) := of_decide_eq_true (by assumption); omega) | (have h2_ : x12_1 < (l0_0.length : Int) := of_decide_eq_true (by assumption); omega) | omega)
                clear c17
                by_cases c18 : (rd (l0_0.take (x12_1 : Int).toNat) x29_3) = (rd l0_0 x12_1)
                ·rw [if_pos c18] at H
                 have c18b0 : ((rd (l0_0.take (x12_1 : Int).toNat) x29_3) == (rd l0_0 x12_1)) = true := beq_iff_eq.mpr c18
                 have c18b1 : ((rd (l0_0.take (x12_1 : Int).toNat) x29_3) != (rd l0_0 x12_1)) = false := bne_eq_false_iff_eq.mpr c18
                 clear c18
                 obtain rfl := Option.some.inj H
                 have p155 : 0 ≤ (x29_3 : Int) := of_decide_eq_true (by first | (with_reducible assumption) | assumption)
                 have q155 : x29_3 < ((l0_0.take (x12_1 : Int).toNat).length : Int) := of_decide_eq_true (by first | (with_reducible assumption) | assumption)
                 try have q155h : (x29_3 < max x12_1 0) = True := eq_true (by have h_ := q155; rw [List.length_take] at h_; first | (have h2_ : x12_1 ≤ (l0_0.length : Int) := of_decide_eq_true (by assumption); omega) | (have h2_ : x12_1 < (l0_0.length : Int) := of_decide_eq_true (by assumption); omega) | omega)
                 obtain ⟨ad155, e155, hx155_0⟩ := Kd.at_int HR154.out x29_3 p155 q155
                 obtain rfl : ad153 = ad155 := (by injection e155)
                 replace hx155_0 := (HB.out.cell (World.block_lt_of_cell? w _ hx155_0)).trans hx155_0
                 replace p155 := eq_true p155
                 replace q155 := eq_true q155
                 go_wp2
                 go_ret
                 exact ⟨by first | rfl | (simp [errW_none, errW_some] <;> rfl) | (simp [*, errW_none, errW_some] <;> rfl), by repeat (first | (with_reducible first | exact HB.out | apply below_alloc | apply pw_below_drewN | apply below_drew1 | refine below_set ?_ GE151.out) | exact HB.out)⟩
                ·rw [if_neg c18] at H
                 have c18b0 : ((rd (l0_0.take (x12_1 : Int).toNat) x29_3) == (rd l0_0 x12_1)) = false := beq_eq_false_iff_ne.mpr c18
                 have c18b1 : ((rd (l0_0.take (x12_1 : Int).toNat) x29_3) != (rd l0_0 x12_1)) = true := bne_iff_ne.mpr c18
                 have H' := aA H
                 clear H
                 have p155 : 0 ≤ (x29_3 : Int) := of_decide_eq_true (by first | (with_reducible assumption) | assumption)
                 have q155 : x29_3 < ((l0_0.take (x12_1 : Int).toNat).length : Int) := of_decide_eq_true (by first | (with_reducible assumption) | assumption)
                 try have q155h : (x29_3 < max x12_1 0) = True := eq_true (by have h_ := q155; rw [List.length_take] at h_; first | (have h2_ : x12_1 ≤ (l0_0.length : Int) := of_decide_eq_true (by assumption); omega) | (have h2_ : x12_1 < (l0_0.length : Int) := of_decide_eq_true (by assumption); omega) | omega)
                 obtain ⟨ad155, e155, hx155_0⟩ := Kd.at_int HR154.out x29_3 p155 q155
                 obtain rfl : ad153 = ad155 := (by injection e155)
                 replace hx155_0 := (HB.out.cell (World.block_lt_of_cell? w _ hx155_0)).trans hx155_0
                 replace p155 := eq_true p155
                 replace q155 := eq_true q155
                 go_wp2
                 go_roundg k3
                 case measure => have := HK1.out; have := HJ7.out; have := HK3.out; omega
                 case rel => exact ⟨(wrap64 (x29_3 + 1)), (by first | rfl | (simp; done) | (simp [*]; done)), H', ⟨by have := HK1.out; have := HJ7.out; have := HK3.out; omega⟩, ⟨by (with_reducible repeat (first | refine blk_drewN ?_ _ | refine blk_drew ?_ | refine blk_alloc ?_ _)); exact BK151.out⟩, ⟨by repeat (first | (with_reducible first | exact HB.out | apply below_alloc | apply pw_below_drewN | apply below_drew1 | refine below_set ?_ GE151.out) | exact HB.out)⟩⟩
               ·rw [if_neg c17] at H
                exact absurd H (by simp)
              ·rw [if_neg c16] at H
               exact absurd H (by simp)
             ·rw [if_neg c15] at H
              have c15b0 : decide (x29_3 < ((l0_0.take (x12_1 : Int).toNat).length : Int)) = false := decide_eq_false c15
              try have c15b0h : decide (x29_3 < max x12_1 0) = false := decide_eq_false (by have h_ := of_decide_eq_false c15b0; rw [List.length_take] at h_; first | (have h2_ : x12_1 ≤ (l0_0.length : Int) := of_decide_eq_true (by assumption); omega) | (have h2_ : x12_1 < (l0_0.length : Int) := of_decide_eq_true (by assumption); omega) | omega)
              clear c15
              have H' := aA H
              clear H
              go_wp2
              go_roundg k3
              case measure => have := HK1.out; have := HJ7.out; have := HK3.out; omega
              case rel => exact ⟨(wrap64 (x12_1 + 1)), (by first | rfl | (simp; done) | (simp [*]; done)), H', ⟨by have := HK1.out; have := HJ7.out; have := HK3.out; omega⟩, ⟨by (with_reducible repeat (first | refine blk_drewN ?_ _ | refine blk_drew ?_ | refine blk_alloc ?_ _)); exact BK151.out⟩, ⟨by repeat (first | (with_reducible first | exact HB.out | apply below_alloc | apply pw_below_drewN | apply below_drew1 | refine below_set ?_ GE151.out) | exact HB.out)⟩⟩
          ·rw [if_neg c12] at H
           exact absurd H (by simp)
         ·rw [if_neg c11] at H
          exact absurd H (by simp)
     ·rw [if_neg c7] at H
      exact absurd H (by simp)
    ·rw [if_neg c6] at H
     exact absurd H (by simp)
   ·rw [if_neg c5] at H
    have c5b0 : decide (x12_1 < (l0_0.length : Int)) = false := decide_eq_false c5
    clear c5
    by_cases c19 : (l0_0.length : Int) ≥ 1
    ·rw [if_pos c19] at H
     have c19b0 : decide (1 ≤ (l0_0.length : Int)) = true := decide_eq_true c19
     have c19b1 : decide (1 ≤ l0_0.length) = true := decide_eq_true (by omega)
     clear c19
     by_cases c20 : (l0_0.length : Int) ≤ 4
     ·rw [if_pos c20] at H
      have c20b0 : decide ((l0_0.length : Int) ≤ 4) = true := decide_eq_true c20
      have c20b1 : decide (l0_0.length ≤ 4) = true := decide_eq_true (by omega)
      clear c20
      replace H := Option.bind_eq_some_iff.mp H
      obtain ⟨t152, A210, H⟩ := H
      have A21 := aA A210
      clear A210
      obtain rfl := Option.some.inj H
      obtain ⟨hcz22_0, hcz22_1⟩ := bC2 BK151.out
      obtain ⟨hfz22_0, hfz22_1⟩ := bF2 BK151.out
      go_wp2_with (first | (go_at_call 62; (with_reducible refine (foghornref10_Matchers.calls _ _ l0_1 t152 _ ?side1 ?side2 A21.out).mono ?_); (case side1 => exact mC ((Kd.C_below HR0_1.out HB.out))); (case side2 => exact HC0_1.out); rintro e w23 ⟨rfl, hb⟩; have n0_ := aA (bB BK151.out hb); have n1_ := aA (below_step (mD1 GE151.out) hb); clear BK151 HB; have BK151 := n0_; have HB := n1_; clear n0_ n1_; (try clear hb); (try clear hb2); (try clear hk); (try clear hi)))
      go_ret
      exact ⟨by first | rfl | (simp [errW_none, errW_some] <;> rfl) | (simp [*, errW_none, errW_some] <;> rfl), by repeat (first | (with_reducible first | exact HB.out | apply below_alloc | apply pw_below_drewN | apply below_drew1 | refine below_set ?_ GE151.out) | exact HB.out)⟩
     ·rw [if_neg c20] at H
      have c20b0 : decide ((l0_0.length : Int) ≤ 4) = false := decide_eq_false c20
      have c20b1 : decide (l0_0.length ≤ 4) = false := decide_eq_false (by omega)
      clear c20
      obtain rfl := Option.some.inj H
      obtain ⟨hcz24_0, hcz24_1⟩ := bC2 BK151.out
      obtain ⟨hfz24_0, hfz24_1⟩ := bF2 BK151.out
      go_wp2
      go_ret
      exact ⟨by first | rfl | (simp [errW_none, errW_some] <;> rfl) | (simp [*, errW_none, errW_some] <;> rfl), by repeat (first | (with_reducible first | exact HB.out | apply below_alloc | apply pw_below_drewN | apply below_drew1 | refine below_set ?_ GE151.out) | exact HB.out)⟩
    ·rw [if_neg c19] at H
     have c19b0 : decide (1 ≤ (l0_0.length : Int)) = false := decide_eq_false c19
     have c19b1 : decide (1 ≤ l0_0.length) = false := decide_eq_false (by omega)
     clear c19
     obtain rfl := Option.some.inj H
     obtain ⟨hcz25_0, hcz25_1⟩ := bC2 BK151.out
     obtain ⟨hfz25_0, hfz25_1⟩ := bF2 BK151.out
     go_wp2
     go_ret
     exact ⟨by first | rfl | (simp [errW_none, errW_some] <;> rfl) | (simp [*, errW_none, errW_some] <;> rfl), by repeat (first | (with_reducible first | exact HB.out | apply below_alloc | apply pw_below_drewN | apply below_drew1 | refine below_set ?_ GE151.out) | exact HB.out)⟩
end Go.Proofs.YtejdpjmfnpbadaaGreatDoorQ.P
namespace Go.Proofs.YtejdpjmfnpbadaaGreatDoorQ.P
open Go.RowKit Go.Proofs.YtejdpjmfnpbadaaGreatDoorW.PrintWords Go.Proofs.YtejdpjmfnpbadaaGreatDoorW.PrintLast Go.Proofs.YtejdpjmfnpbadaaGreatDoorW.PrintMore
attribute [local go_sem] max2_int min2_int max_two min_two max_three min_three max_four min_four
def foghornref13_often.f (a0 : Int) : Option (Bool) := if a0 ≥ 1 then (some (decide (a0 ≤ 1073741824))) else (some false)
set_option maxHeartbeats 8000000 in
set_option maxRecDepth 100000 in
theorem foghornref13_often.calls (a0 : Int) (r : Bool) (w : World) (h : foghornref13_often.f a0 = some r) :
  Calls Tryz.prog 29 #[.int .i64 a0] w fun e w' => e = .returned (.bool r) ∧ Drawn0 w w' := by
 have H : (if a0 ≥ 1 then (some (decide (a0 ≤ 1073741824))) else (some false)) = some r := h
 clear h
 by_cases c2 : a0 ≥ 1
 ·rw [if_pos c2] at H
  have c2b0 : decide (1 ≤ a0) = true := decide_eq_true c2
  clear c2
  obtain rfl := Option.some.inj H
  go_enter Tryz.func29, Tryz.ntmps29
  go_wp2
  go_ret
  exact ⟨by first | rfl | (simp; done) | (simp [*]; done), by repeat (first | exact Drawn0.refl _ | apply Drawn0.step)⟩
 ·rw [if_neg c2] at H
  have c2b0 : decide (1 ≤ a0) = false := decide_eq_false c2
  clear c2
  obtain rfl := Option.some.inj H
  go_enter Tryz.func29, Tryz.ntmps29
  go_wp2
  go_ret
  exact ⟨by first | rfl | (simp; done) | (simp [*]; done), by repeat (first | exact Drawn0.refl _ | apply Drawn0.step)⟩
end Go.Proofs.YtejdpjmfnpbadaaGreatDoorQ.P
namespace Go.Proofs.YtejdpjmfnpbadaaGreatDoorQ.P
open Go.RowKit Go.Proofs.YtejdpjmfnpbadaaGreatDoorW.PrintWords Go.Proofs.YtejdpjmfnpbadaaGreatDoorW.PrintLast Go.Proofs.YtejdpjmfnpbadaaGreatDoorW.PrintMore
attribute [local go_sem] max2_int min2_int max_two min_two max_three min_three max_four min_four
mutual
def foghornref13_Right.l0 : Nat → List (S41) → Int → Int → List (S41) → List (S46) → Int → Int → Option (Bool)
 | 0, _, _, _, _, _, _, _ => none
 | k + 1, x8, x9, x10, x157000, x157001, x157002, x157003 => if x10 < x9 then (if 0 ≤ x10 then (if x10 < (x8.length : Int) then ((foghornref13_receiver.f k ((rd_T41 x8 x10).f0) ((rd_T41 x8 x10).f1.f0) ((rd_T41 x8 x10).f1.f1) ((rd_T41 x8 x10).f1.f2) ((rd_T41 x8 x10).f2) ((rd_T41 x8 x10).f3) ((rd_T41 x8 x10).f4) ((rd_T41 x8 x10).f5) ((rd_T41 x8 x10).f6)).bind fun t159 => (if t159 = true then (if x10 ≤ (x157000.length : Int) then ((foghornref13_place.f k (x157000.take (x10 : Int).toNat) ((rd_T41 x8 x10).f0)).bind fun t164 => (if t164 ≥ 0 then (some false) else (foghornref13_Right.l0 k x8 x9 (wrap64 (x10 + 1)) x157000 x157001 x157002 x157003))) else (none)) else (some false))) else (none)) else (none)) else (foghornref13_Right.l1 k x157001 (x157001.length : Int) 0 x157000 x157001 x157002 x157003)
def foghornref13_Right.l1 : Nat → List (S46) → Int → Int → List (S41) → List (S46) → Int → Int → Option (Bool)
 | 0, _, _, _, _, _, _, _ => none
 | k + 1, x30, x31, x32, x157000, x157001, x157002, x157003 => if x32 < x31 then (if 0 ≤ x32 then (if x32 < (x30.length : Int) then ((foghornref13_route.f k ((rd_T46 x30 x32).f0) ((rd_T46 x30 x32).f1) (x157000.length : Int)).bind fun t167 => (if t167 = true then (foghornref13_Right.l1 k x30 x31 (wrap64 (x32 + 1)) x157000 x157001 x157002 x157003) else (some false))) else (none)) else (none)) else (if (x157000.length : Int) ≥ 1 then (if (x157000.length : Int) ≤ 4 then (if (x157001.length : Int) ≥ 1 then (if (x157001.length : Int) ≤ 4 then ((foghornref13_often.f x157002).bind fun t168 => (if t168 = true then ((foghornref13_often.f x157003).bind fun t169 => (some t169)) else (some false))) else (some false)) else (some false)) else (some false)) else (some false))
end
def foghornref13_Right.f (k : Nat) (l0_0 : List (S41)) (l0_1 : List (S46)) (a0_2 : Int) (a0_3 : Int) : Option (Bool) := foghornref13_Right.l0 k l0_0 (l0_0.length : Int) 0 l0_0 l0_1 a0_2 a0_3
def foghornref13_Right.T4 : Bool × List (List Nat × List Nat) := (true, [([], []), ([0], [0]), ([1], [1]), ([2, 1], [2]), ([3], [3]), ([4, 3], [3, 4]), ([3], [3]), ([5, 6, 3], [3, 5, 6]), ([3], [3]), ([8, 3], [3, 8]), ([7, 9, 3, 3], [3, 7, 9]), ([10, 3], [3, 10]), ([3, 11], [3, 11])])
def foghornref13_Right.B4 : List Nat := [0, 1, 3, 7, 15, 31, 15, 127, 15, 271, 1023, 2047, 4095]
theorem foghornref13_Right.tab4 : rtab .any (opsOf Tryz.f11 4) = foghornref13_Right.T4 := by kernel_rfl
theorem foghornref13_Right.bits4 : waitsOk foghornref13_Right.T4.2 foghornref13_Right.B4 = true := by kernel_rfl
set_option maxHeartbeats 8000000 in
set_option maxRecDepth 100000 in
theorem foghornref13_Right.calls (k : Nat) (A0_0 : Option Addr) (c0_0 : Nat) (l0_0 : List (S41)) (A0_1 : Option Addr) (c0_1 : Nat) (l0_1 : List (S46)) (a0_2 : Int) (a0_3 : Int) (r : Bool) (w : World) (hr0_0 : Kd.C k41 w A0_0 l0_0.length l0_0) (hc0_0 : l0_0.length ≤ c0_0) (hr0_1 : Kd.C k46 w A0_1 l0_1.length l0_1) (hc0_1 : l0_1.length ≤ c0_1) (h : foghornref13_Right.f k l0_0 l0_1 a0_2 a0_3 = some r) :
  Calls Tryz.prog 11 #[.agg #[.slice A0_0 l0_0.length c0_0, .slice A0_1 l0_1.length c0_1, .int .i64 a0_2, .int .i64 a0_3]] w fun e w' => e = .returned (.bool r) ∧ Below w.heap.size w w' := by
 have hu25 := Tryz.underlying25
 have hu41 := Tryz.underlying41
 have hu46 := Tryz.underlying46
 have HR0_0 := aA hr0_0
 have HC0_0 := aA hc0_0
 clear hr0_0 hc0_0
 have HR0_1 := aA hr0_1
 have HC0_1 := aA hc0_1
 clear hr0_1 hc0_1
 have HB := aA (Below.refl w.heap.size w)
 have H : (foghornref13_Right.l0 k l0_0 (l0_0.length : Int) 0 l0_0 l0_1 a0_2 a0_3) = some r := h
 clear h
 have H' := aA H
 clear H
 go_enter Tryz.func11, Tryz.ntmps11
 go_wp2_with (first | ((with_reducible refine gate_dst (N := 1) rfl ?_); (try (refine gate_guard (by rfl) ?_; dsimp only)); refine box_event ?hg (N := 1) ?hd (cs := #[.slice A0_0 l0_0.length c0_0, .slice A0_1 l0_1.length c0_1, .int .i64 a0_2, .int .i64 a0_3]) (t := 25) ?hr ?_; (case hd => rfl); (case hg => rfl); (case hr => first | (go_simp; done) | (go_simp; rfl)); intro gb156 hg w2 hbox hb; have n0_ := aA (below_step mB hb); have n1_ := aA (hbox); have n2_ := aA ((bZ hg mB)); have n3_ := aA ((bZ hg mB)); clear HB; have HB := n0_; have BK156 := n1_; have GW156 := n2_; have GE156 := n3_; clear n0_ n1_ n2_ n3_ hb hbox hg; obtain ⟨hcz3_0, hcz3_1, hcz3_2, hcz3_3⟩ := bC4 BK156.out; obtain ⟨hfz3_0, hfz3_1, hfz3_2, hfz3_3⟩ := bF4 BK156.out))
 go_loopg [10] k (fun kq v10 w' => ∃ (x10_1 : Int), v10 = .int .i64 x10_1 ∧ Aside0 (foghornref13_Right.l0 kq l0_0 (l0_0.length : Int) x10_1 l0_0 l0_1 a0_2 a0_3 = some r) ∧ Aside0 (kq ≤ k) ∧ Aside0 (w'.heap[gb156]? = some (.cells #[(.slice A0_0 l0_0.length c0_0), (.slice A0_1 l0_1.length c0_1), .int .i64 a0_2, .int .i64 a0_3] 25 (0, 0))) ∧ Aside0 (Below w.heap.size w w'))
 case atStart => exact ⟨(0), (by first | rfl | (simp; done) | (simp [*]; done)), H', ⟨Nat.le_refl _⟩, ⟨by (with_reducible repeat (first | refine blk_drewN ?_ _ | refine blk_drew ?_ | refine blk_alloc ?_ _)); exact BK156.out⟩, ⟨by repeat (first | (with_reducible first | exact HB.out | apply below_alloc | apply pw_below_drewN | apply below_drew1 | refine below_set ?_ GE156.out) | exact HB.out)⟩⟩
 case round =>
  clear H'
  try clear c1
  try clear p2
  try clear hcz3_0 hcz3_1 hcz3_2 hcz3_3
  try clear hfz3_0 hfz3_1 hfz3_2 hfz3_3
  obtain ⟨x10_1, rfl, HA, HK1, BK156, HB⟩ := hrel
  cases gk with
  | zero => exact absurd HA.out (by simp [foghornref13_Right.l0])
  | succ k1 =>
   have H := HA.out
   clear HA
   simp only [foghornref13_Right.l0] at H
   by_cases c4 : x10_1 < (l0_0.length : Int)
   ·rw [if_pos c4] at H
    have c4b0 : decide (x10_1 < (l0_0.length : Int)) = true := decide_eq_true c4
    clear c4
    by_cases c5 : 0 ≤ x10_1
    ·rw [if_pos c5] at H
     have c5b0 : decide (0 ≤ x10_1) = true := decide_eq_true c5
     clear c5
     by_cases c6 : x10_1 < (l0_0.length : Int)
     ·rw [if_pos c6] at H
      have c6b0 : decide (x10_1 < (l0_0.length : Int)) = true := decide_eq_true c6
      clear c6
      replace H := Option.bind_eq_some_iff.mp H
      obtain ⟨t159, A70, H⟩ := H
      have A7 := aA A70
      clear A70
      by_cases c8 : t159 = true
      ·subst c8
       have H1 : (if x10_1 ≤ (l0_0.length : Int) then ((foghornref13_place.f k1 (l0_0.take (x10_1 : Int).toNat) ((rd_T41 l0_0 x10_1).f0)).bind fun t164 => (if t164 ≥ 0 then (some false) else (foghornref13_Right.l0 k1 l0_0 (l0_0.length : Int) (wrap64 (x10_1 + 1)) l0_0 l0_1 a0_2 a0_3))) else (none)) = some r := by rw [if_pos rfl] at H; exact H
       clear H
       have H := H1
       clear H1
       have c9b0 := eq_true (of_decide_eq_true (by first | (with_reducible assumption) | assumption) : 0 ≤ x10_1)
       by_cases c10 : x10_1 ≤ (l0_0.length : Int)
       ·rw [if_pos c10] at H
        have c10b0 := eq_true c10
        have c10b1 := decide_eq_true c10
        clear c10
        obtain ⟨y160, hy160⟩ : ∃ y_ : List (S41), y_ = (l0_0.take (x10_1 : Int).toNat) := ⟨_, rfl⟩
        replace H : ((foghornref13_place.f k1 y160 ((rd_T41 l0_0 x10_1).f0)).bind fun t164 => (if t164 ≥ 0 then (some false) else (foghornref13_Right.l0 k1 l0_0 (l0_0.length : Int) (wrap64 (x10_1 + 1)) l0_0 l0_1 a0_2 a0_3))) = some r := by first | (rw [hy160]; with_reducible exact H) | (have H2_ := (Option.bind_some _ _).symm.trans H; rw [hy160]; with_reducible exact H2_) | (have H2_ := (Option.bind_some _ _).symm.trans H; with_reducible exact H2_) | with_reducible exact H | (rw [hy160]; exact H) | exact H
        have Ny160 := aA hy160
        clear hy160
        replace H := Option.bind_eq_some_iff.mp H
        obtain ⟨t164, A110, H⟩ := H
        have A11 := aA A110
        clear A110
        by_cases c12 : t164 ≥ 0
        ·rw [if_pos c12] at H
         have c12b0 : decide (0 ≤ t164) = true := decide_eq_true c12
         clear c12
         obtain rfl := Option.some.inj H
         have p157 : 0 ≤ (x10_1 : Int) := of_decide_eq_true (by first | (with_reducible assumption) | assumption)
         have q157 : x10_1 < (l0_0.length : Int) := of_decide_eq_true (by first | (with_reducible assumption) | assumption)
         obtain ⟨ad157, e157, hx157_0, hx157_1, hx157_2, hx157_3, hx157_4, hx157_5, hx157_6, hx157_7, hx157_8⟩ := at_T41 HR0_0.out x10_1 p157 q157
         cases e157
         replace hx157_0 := (HB.out.cell (World.block_lt_of_cell? w _ hx157_0)).trans hx157_0
         replace hx157_1 := (HB.out.cell (World.block_lt_of_cell? w _ hx157_1)).trans hx157_1
         replace hx157_2 := (HB.out.cell (World.block_lt_of_cell? w _ hx157_2)).trans hx157_2
         replace hx157_3 := (HB.out.cell (World.block_lt_of_cell? w _ hx157_3)).trans hx157_3
         replace hx157_4 := (HB.out.cell (World.block_lt_of_cell? w _ hx157_4)).trans hx157_4
         replace hx157_5 := (HB.out.cell (World.block_lt_of_cell? w _ hx157_5)).trans hx157_5
         replace hx157_6 := (HB.out.cell (World.block_lt_of_cell? w _ hx157_6)).trans hx157_6
         replace hx157_7 := (HB.out.cell (World.block_lt_of_cell? w _ hx157_7)).trans hx157_7
         replace hx157_8 := (HB.out.cell (World.block_lt_of_cell? w _ hx157_8)).trans hx157_8
         replace p157 := eq_true p157
         replace q157 := eq_true q157
         try go_wp2_with (first | ((with_reducible refine gate_dst (N := 4) rfl ?_); (try (refine gate_guard (by rfl) ?_; dsimp only)); refine box_event ?hg (N := 4) ?hd (cs := #[.string (⟨#[]⟩ : ByteArray), .int .i64 0, .int .i64 0, .int .i64 0, .int .i64 0, .int .i64 0, .int .i64 0, .int .i64 0, .int .i64 0]) (t := 41) ?hr ?_; (case hd => rfl); (case hg => rfl); (case hr => first | (go_simp; done) | (go_simp; rfl)); intro gb158 hg w13 hbox hb; have n0_ := aA (bB BK156.out hb); have n1_ := aA (below_step (mD1 GE156.out) hb); have n2_ := aA (hbox); have n3_ := aA ((bZ hg (mD1 GE156.out))); have n4_ := aA ((bZ hg (mD1 GE156.out))); have n5_ := aA ((bL hg BK156.out)); have n6_ := aA ((bG hg BK156.out)); clear BK156 HB; have BK156 := n0_; have HB := n1_; have BK158 := n2_; have GW158 := n3_; have GE158 := n4_; have NB156_158 := n5_; have NB158_156 := n6_; clear n0_ n1_ n2_ n3_ n4_ n5_ n6_ hb hbox hg; have hnb14 := NB158_156.out; have hnc14 := NB156_158.out; obtain ⟨hcz15_0, hcz15_1, hcz15_2, hcz15_3, hcz15_4, hcz15_5, hcz15_6, hcz15_7, hcz15_8⟩ := bC9 BK158.out; obtain ⟨hfz15_0, hfz15_1, hfz15_2, hfz15_3, hfz15_4, hfz15_5, hfz15_6, hfz15_7, hfz15_8⟩ := bF9 BK158.out))
         have n0_ : Aside0 ((((((((((w13.setCell ⟨gb158, 0, none⟩ (.string ((rd_T41 l0_0 x10_1).f0))).setCell ⟨gb158, 1, none⟩ (.int .i64 ((rd_T41 l0_0 x10_1).f1.f0))).setCell ⟨gb158, 2, none⟩ (.int .i64 ((rd_T41 l0_0 x10_1).f1.f1))).setCell ⟨gb158, 3, none⟩ (.int .i64 ((rd_T41 l0_0 x10_1).f1.f2))).setCell ⟨gb158, 4, none⟩ (.int .i64 ((rd_T41 l0_0 x10_1).f2))).setCell ⟨gb158, 5, none⟩ (.int .i64 ((rd_T41 l0_0 x10_1).f3))).setCell ⟨gb158, 6, none⟩ (.int .i64 ((rd_T41 l0_0 x10_1).f4))).setCell ⟨gb158, 7, none⟩ (.int .i64 ((rd_T41 l0_0 x10_1).f5))).setCell ⟨gb158, 8, none⟩ (.int .i64 ((rd_T41 l0_0 x10_1).f6))).heap[gb156]? = some (.cells #[.slice (some ad157) l0_0.length c0_0, .slice A0_1 l0_1.length c0_1, .int .i64 a0_2, .int .i64 a0_3] 25 (0, 0))) := ⟨by (with_reducible repeat (first | refine blk_drewN ?_ _ | refine blk_drew ?_ | refine blk_alloc ?_ _)); refine blk_far ?_ NB156_158.out _; (with_reducible repeat (first | refine blk_drewN ?_ _ | refine blk_drew ?_ | refine blk_alloc ?_ _)); refine blk_far ?_ NB156_158.out _; (with_reducible repeat (first | refine blk_drewN ?_ _ | refine blk_drew ?_ | refine blk_alloc ?_ _)); refine blk_far ?_ NB156_158.out _; (with_reducible repeat (first | refine blk_drewN ?_ _ | refine blk_drew ?_ | refine blk_alloc ?_ _)); refine blk_far ?_ NB156_158.out _; (with_reducible repeat (first | refine blk_drewN ?_ _ | refine blk_drew ?_ | refine blk_alloc ?_ _)); refine blk_far ?_ NB156_158.out _; (with_reducible repeat (first | refine blk_drewN ?_ _ | refine blk_drew ?_ | refine blk_alloc ?_ _)); refine blk_far ?_ NB156_158.out _; (with_reducible repeat (first | refine blk_drewN ?_ _ | refine blk_drew ?_ | refine blk_alloc ?_ _)); refine blk_far ?_ NB156_158.out _; (with_reducible repeat (first | refine blk_drewN ?_ _ | refine blk_drew ?_ | refine blk_alloc ?_ _)); refine blk_far ?_ NB156_158.out _; (with_reducible repeat (first | refine blk_drewN ?_ _ | refine blk_drew ?_ | refine blk_alloc ?_ _)); refine blk_far ?_ NB156_158.out _; (with_reducible repeat (first | refine blk_drewN ?_ _ | refine blk_drew ?_ | refine blk_alloc ?_ _)); exact BK156.out⟩
         have n1_ : Aside0 ((((((((((w13.setCell ⟨gb158, 0, none⟩ (.string ((rd_T41 l0_0 x10_1).f0))).setCell ⟨gb158, 1, none⟩ (.int .i64 ((rd_T41 l0_0 x10_1).f1.f0))).setCell ⟨gb158, 2, none⟩ (.int .i64 ((rd_T41 l0_0 x10_1).f1.f1))).setCell ⟨gb158, 3, none⟩ (.int .i64 ((rd_T41 l0_0 x10_1).f1.f2))).setCell ⟨gb158, 4, none⟩ (.int .i64 ((rd_T41 l0_0 x10_1).f2))).setCell ⟨gb158, 5, none⟩ (.int .i64 ((rd_T41 l0_0 x10_1).f3))).setCell ⟨gb158, 6, none⟩ (.int .i64 ((rd_T41 l0_0 x10_1).f4))).setCell ⟨gb158, 7, none⟩ (.int .i64 ((rd_T41 l0_0 x10_1).f5))).setCell ⟨gb158, 8, none⟩ (.int .i64 ((rd_T41 l0_0 x10_1).f6))).heap[gb158]? = some (.cells #[.string ((rd_T41 l0_0 x10_1).f0), .int .i64 ((rd_T41 l0_0 x10_1).f1.f0), .int .i64 ((rd_T41 l0_0 x10_1).f1.f1), .int .i64 ((rd_T41 l0_0 x10_1).f1.f2), .int .i64 ((rd_T41 l0_0 x10_1).f2), .int .i64 ((rd_T41 l0_0 x10_1).f3), .int .i64 ((rd_T41 l0_0 x10_1).f4), .int .i64 ((rd_T41 l0_0 x10_1).f5), .int .i64 ((rd_T41 l0_0 x10_1).f6)] 41 (0, 0))) := ⟨by (with_reducible repeat (first | refine blk_drewN ?_ _ | refine blk_drew ?_ | refine blk_alloc ?_ _)); refine blk_put (cs := #[.string ((rd_T41 l0_0 x10_1).f0), .int .i64 ((rd_T41 l0_0 x10_1).f1.f0), .int .i64 ((rd_T41 l0_0 x10_1).f1.f1), .int .i64 ((rd_T41 l0_0 x10_1).f1.f2), .int .i64 ((rd_T41 l0_0 x10_1).f2), .int .i64 ((rd_T41 l0_0 x10_1).f3), .int .i64 ((rd_T41 l0_0 x10_1).f4), .int .i64 ((rd_T41 l0_0 x10_1).f5), .int .i64 0]) ?_ 8 _ rfl; (with_reducible repeat (first | refine blk_drewN ?_ _ | refine blk_drew ?_ | refine blk_alloc ?_ _)); refine blk_put (cs := #[.string ((rd_T41 l0_0 x10_1).f0), .int .i64 ((rd_T41 l0_0 x10_1).f1.f0), .int .i64 ((rd_T41 l0_0 x10_1).f1.f1), .int .i64 ((rd_T41 l0_0 x10_1).f1.f2), .int .i64 ((rd_T41 l0_0 x10_1).f2), .int .i64 ((rd_T41 l0_0 x10_1).f3), .int .i64 ((rd_T41 l0_0 x10_1).f4), .int .i64 0, .int .i64 0]) ?_ 7 _ rfl; (with_reducible repeat (first | refine blk_drewN ?_ _ | refine blk_drew ?_ | refine blk_alloc ?_ _)); refine blk_put (cs := #[.string ((rd_T41 l0_0 x10_1).f0), .int .i64 ((rd_T41 l0_0 x10_1).f1.f0), .int .i64 ((rd_T41 l0_0 x10_1).f1.f1), .int .i64 ((rd_T41 l0_0 x10_1).f1.f2), .int .i64 ((rd_T41 l0_0 x10_1).f2), .int .i64 ((rd_T41 l0_0 x10_1).f3), .int .i64 0, .int .i64 0, .int .i64 0]) ?_ 6 _ rfl; (with_reducible repeat (first | refine blk_drewN ?_ _ | refine blk_drew ?_ | refine blk_alloc ?_ _)); refine blk_put (cs := #[.string ((rd_T41 l0_0 x10_1).f0), .int .i64 ((rd_T41 l0_0 x10_1).f1.f0), .int .i64 ((rd_T41 l0_0 x10_1).f1.f1), .int .i64 ((rd_T41 l0_0 x10_1).f1.f2), .int .i64 ((rd_T41 l0_0 x10_1).f2), .int .i64 0, .int .i64 0, .int .i64 0, .int .i64 0]) ?_ 5 _ rfl; (with_reducible repeat (first | refine blk_drewN ?_ _ | refine blk_drew ?_ | refine blk_alloc ?_ _)); refine blk_put (cs := #[.string ((rd_T41 l0_0 x10_1).f0), .int .i64 ((rd_T41 l0_0 x10_1).f1.f0), .int .i64 ((rd_T41 l0_0 x10_1).f1.f1), .int .i64 ((rd_T41 l0_0 x10_1).f1.f2), .int .i64 0, .int .i64 0, .int .i64 0, .int .i64 0, .int .i64 0]) ?_ 4 _ rfl; (with_reducible repeat (first | refine blk_drewN ?_ _ | refine blk_drew ?_ | refine blk_alloc ?_ _)); refine blk_put (cs := #[.string ((rd_T41 l0_0 x10_1).f0), .int .i64 ((rd_T41 l0_0 x10_1).f1.f0), .int .i64 ((rd_T41 l0_0 x10_1).f1.f1), .int .i64 0, .int .i64 0, .int .i64 0, .int .i64 0, .int .i64 0, .int .i64 0]) ?_ 3 _ rfl; (with_reducible repeat (first | refine blk_drewN ?_ _ | refine blk_drew ?_ | refine blk_alloc ?_ _)); refine blk_put (cs := #[.string ((rd_T41 l0_0 x10_1).f0), .int .i64 ((rd_T41 l0_0 x10_1).f1.f0), .int .i64 0, .int .i64 0, .int .i64 0, .int .i64 0, .int .i64 0, .int .i64 0, .int .i64 0]) ?_ 2 _ rfl; (with_reducible repeat (first | refine blk_drewN ?_ _ | refine blk_drew ?_ | refine blk_alloc ?_ _)); refine blk_put (cs := #[.string ((rd_T41 l0_0 x10_1).f0), .int .i64 0, .int .i64 0, .int .i64 0, .int .i64 0, .int .i64 0, .int .i64 0, .int .i64 0, .int .i64 0]) ?_ 1 _ rfl; (with_reducible repeat (first | refine blk_drewN ?_ _ | refine blk_drew ?_ | refine blk_alloc ?_ _)); refine blk_put (cs := #[.string (⟨#[]⟩ : ByteArray), .int .i64 0, .int .i64 0, .int .i64 0, .int .i64 0, .int .i64 0, .int .i64 0, .int .i64 0, .int .i64 0]) ?_ 0 _ rfl; (with_reducible repeat (first | refine blk_drewN ?_ _ | refine blk_drew ?_ | refine blk_alloc ?_ _)); exact BK158.out⟩
         have n2_ : Aside0 (Below w.heap.size w (((((((((w13.setCell ⟨gb158, 0, none⟩ (.string ((rd_T41 l0_0 x10_1).f0))).setCell ⟨gb158, 1, none⟩ (.int .i64 ((rd_T41 l0_0 x10_1).f1.f0))).setCell ⟨gb158, 2, none⟩ (.int .i64 ((rd_T41 l0_0 x10_1).f1.f1))).setCell ⟨gb158, 3, none⟩ (.int .i64 ((rd_T41 l0_0 x10_1).f1.f2))).setCell ⟨gb158, 4, none⟩ (.int .i64 ((rd_T41 l0_0 x10_1).f2))).setCell ⟨gb158, 5, none⟩ (.int .i64 ((rd_T41 l0_0 x10_1).f3))).setCell ⟨gb158, 6, none⟩ (.int .i64 ((rd_T41 l0_0 x10_1).f4))).setCell ⟨gb158, 7, none⟩ (.int .i64 ((rd_T41 l0_0 x10_1).f5))).setCell ⟨gb158, 8, none⟩ (.int .i64 ((rd_T41 l0_0 x10_1).f6)))) := ⟨by repeat (first | (with_reducible first | exact HB.out | apply below_alloc | apply pw_below_drewN | apply below_drew1 | refine below_set ?_ GE156.out | refine below_set ?_ GE158.out) | exact HB.out)⟩
         (try clear BK156)
         (try clear BK158)
         (try clear HB)
         generalize (((((((((w13.setCell ⟨gb158, 0, none⟩ (.string ((rd_T41 l0_0 x10_1).f0))).setCell ⟨gb158, 1, none⟩ (.int .i64 ((rd_T41 l0_0 x10_1).f1.f0))).setCell ⟨gb158, 2, none⟩ (.int .i64 ((rd_T41 l0_0 x10_1).f1.f1))).setCell ⟨gb158, 3, none⟩ (.int .i64 ((rd_T41 l0_0 x10_1).f1.f2))).setCell ⟨gb158, 4, none⟩ (.int .i64 ((rd_T41 l0_0 x10_1).f2))).setCell ⟨gb158, 5, none⟩ (.int .i64 ((rd_T41 l0_0 x10_1).f3))).setCell ⟨gb158, 6, none⟩ (.int .i64 ((rd_T41 l0_0 x10_1).f4))).setCell ⟨gb158, 7, none⟩ (.int .i64 ((rd_T41 l0_0 x10_1).f5))).setCell ⟨gb158, 8, none⟩ (.int .i64 ((rd_T41 l0_0 x10_1).f6))) = w16 at n0_ n1_ n2_ ⊢
         have BK156 := n0_
         have BK158 := n1_
         have HB := n2_
         clear n0_ n1_ n2_
         have n0_ := aA (blk_drew BK156.out)
         have n1_ := aA (blk_drew BK158.out)
         have n2_ := aA (below_drew1 HB.out)
         clear BK156
         clear BK158
         clear HB
         have BK156 := n0_
         have BK158 := n1_
         have HB := n2_
         clear n0_ n1_ n2_
         refine start_ (n := 13) (S := fun w' => w'.cell? ⟨gb158, 0, none⟩ = some (.string ((rd_T41 l0_0 x10_1).f0)) ∧ w'.cell? ⟨gb158, 1, none⟩ = some (.int .i64 ((rd_T41 l0_0 x10_1).f1.f0)) ∧ w'.cell? ⟨gb158, 2, none⟩ = some (.int .i64 ((rd_T41 l0_0 x10_1).f1.f1)) ∧ w'.cell? ⟨gb158, 3, none⟩ = some (.int .i64 ((rd_T41 l0_0 x10_1).f1.f2)) ∧ w'.cell? ⟨gb158, 4, none⟩ = some (.int .i64 ((rd_T41 l0_0 x10_1).f2)) ∧ w'.cell? ⟨gb158, 5, none⟩ = some (.int .i64 ((rd_T41 l0_0 x10_1).f3)) ∧ w'.cell? ⟨gb158, 6, none⟩ = some (.int .i64 ((rd_T41 l0_0 x10_1).f4)) ∧ w'.cell? ⟨gb158, 7, none⟩ = some (.int .i64 ((rd_T41 l0_0 x10_1).f5)) ∧ w'.cell? ⟨gb158, 8, none⟩ = some (.int .i64 ((rd_T41 l0_0 x10_1).f6)) ∧ w'.cell? ⟨gb156, 0, none⟩ = some (.slice (some ad157) l0_0.length c0_0) ∧ w'.cell? ⟨gb156, 1, none⟩ = some (.slice A0_1 l0_1.length c0_1) ∧ w'.cell? ⟨gb156, 2, none⟩ = some (.int .i64 a0_2) ∧ w'.cell? ⟨gb156, 3, none⟩ = some (.int .i64 a0_3)) (ds := []) (bA 13 0) (by kernel_rfl) rfl rfl ⟨(blk_cell BK158.out 0).trans rfl, (blk_cell BK158.out 1).trans rfl, (blk_cell BK158.out 2).trans rfl, (blk_cell BK158.out 3).trans rfl, (blk_cell BK158.out 4).trans rfl, (blk_cell BK158.out 5).trans rfl, (blk_cell BK158.out 6).trans rfl, (blk_cell BK158.out 7).trans rfl, (blk_cell BK158.out 8).trans rfl, (blk_cell BK156.out 0).trans rfl, (blk_cell BK156.out 1).trans rfl, (blk_cell BK156.out 2).trans rfl, (blk_cell BK156.out 3).trans rfl⟩ (fun hHeld => ?_); refine with_tabW foghornref13_Right.tab4 foghornref13_Right.bits4 (fun HT_ HW_ => ?_)
         generalize w16.drew = w17 at BK156 BK158 HB hHeld ⊢
         refine take_ (i := 0) (N := some 15) (v := ?_) (a' := ?_) (bA 13 1) rfl rfl (take_ofW HT_.out HW_.out (by kernel_rfl)) (fun _ _ _ h => h) (Or.inl ⟨by rfl, ?_⟩) hHeld ?_ ?_
         rotate_left
         ·rintro w' ⟨s0, s1, s2, s3, s4, s5, s6, s7, s8, s9, s10, s11, s12⟩
          go_simp
          with_reducible rfl
         rotate_left
         ·exact mP
         refine one_ (i := 1) (N := some 16) (bA 13 3) rfl rfl (one_of HT_.out (by kernel_rfl)) (by decide) (fun K hK => ?_)
         refine goes_ Tryz.func26 (by kernel_rfl) rfl #[.agg #[.string ((rd_T41 l0_0 x10_1).f0), .int .i64 ((rd_T41 l0_0 x10_1).f1.f0), .int .i64 ((rd_T41 l0_0 x10_1).f1.f1), .int .i64 ((rd_T41 l0_0 x10_1).f1.f2), .int .i64 ((rd_T41 l0_0 x10_1).f2), .int .i64 ((rd_T41 l0_0 x10_1).f3), .int .i64 ((rd_T41 l0_0 x10_1).f4), .int .i64 ((rd_T41 l0_0 x10_1).f5), .int .i64 ((rd_T41 l0_0 x10_1).f6)]] (by rfl) rfl rfl mS ?_
         with_reducible refine (foghornref13_receiver.calls k1 ((rd_T41 l0_0 x10_1).f0) ((rd_T41 l0_0 x10_1).f1.f0) ((rd_T41 l0_0 x10_1).f1.f1) ((rd_T41 l0_0 x10_1).f1.f2) ((rd_T41 l0_0 x10_1).f2) ((rd_T41 l0_0 x10_1).f3) ((rd_T41 l0_0 x10_1).f4) ((rd_T41 l0_0 x10_1).f5) ((rd_T41 l0_0 x10_1).f6) true _ A7.out).mono ?_
         rintro e w18 ⟨rfl, hb⟩
         refine ⟨_, rfl, ?_⟩
         have n0_ := aA (bB BK156.out hb)
         have n1_ := aA (bB BK158.out hb)
         have n2_ := aA (below_step (mD2 GE156.out GE158.out) hb)
         clear BK156
         clear BK158
         clear HB
         have BK156 := n0_
         have BK158 := n1_
         have HB := n2_
         clear n0_ n1_ n2_
         (try clear hb)
         (try clear hb2)
         (try clear hk)
         (try clear hi)
         have q19 : (x10_1 : Int) ≤ ((l0_0.length : Int) : Int) := of_decide_eq_true (by first | (with_reducible assumption) | assumption)
         obtain ⟨i019, hi019, _, hsz19, _⟩ := info_parts info41
         have hroom19 : l0_0.length ≤ c0_0 := HC0_0.out
         have hC19 : Kd.C k41 _ (some ad157) l0_0.length l0_0 := HR0_0.out
         have hcut19 := cut_to (P := Tryz.prog) 22 41 .i64 Tryz.underlying22 hi019 (some ad157) l0_0.length c0_0 x10_1 (of_decide_eq_true (by first | (with_reducible assumption) | assumption)) q19 hroom19
         have hr19 := Kd.C_take (m := (x10_1 : Int).toNat) hC19 (by omega)
         have hy19 : y160.length = (x10_1 : Int).toNat := (by rw [Ny160.out, List.length_take]; omega)
         rw [← Ny160.out] at hr19
         rw [← hy19] at hcut19
         have HR163 := aA hr19
         have HC163 := aA (show y160.length ≤ c0_0 from by omega)
         clear hr19 hC19 hroom19 hi019 hsz19
         have KY19 := aA hy19
         clear hy19
         replace q19 := eq_true q19
         refine hK.out _ _ ⟨(blk_cell BK158.out 0).trans rfl, (blk_cell BK158.out 1).trans rfl, (blk_cell BK158.out 2).trans rfl, (blk_cell BK158.out 3).trans rfl, (blk_cell BK158.out 4).trans rfl, (blk_cell BK158.out 5).trans rfl, (blk_cell BK158.out 6).trans rfl, (blk_cell BK158.out 7).trans rfl, (blk_cell BK158.out 8).trans rfl, (blk_cell BK156.out 0).trans rfl, (blk_cell BK156.out 1).trans rfl, (blk_cell BK156.out 2).trans rfl, (blk_cell BK156.out 3).trans rfl⟩ (fun hHeld => ?_)
         clear hK K
         refine norm_ (a' := ?_) ?_ ?_
         rotate_left
         ·show Act.put _ (some 16) _ = _
          simp only [Act.put, List.setIfInBounds_toArray, List.set_cons_zero, List.set_cons_succ, i64_w, i32_w]
          rfl
         refine pure_ (i := 2) (N := some 17) (v := ?_) (a' := ?_) (bA 13 7) rfl rfl (any_of HT_.out (by kernel_rfl)) (fun _ _ _ h => h) (Or.inl ⟨by rfl, ?_⟩) ?_ ?_
         rotate_left
         ·intro w'
          go_simp
          with_reducible rfl
         rotate_left
         ·exact mP
         refine pure_ (i := 3) (N := some 18) (v := ?_) (a' := ?_) (bA 13 15) rfl rfl (any_of HT_.out (by kernel_rfl)) (fun _ _ _ h => h) (Or.inl ⟨by rfl, ?_⟩) ?_ ?_
         rotate_left
         ·intro w'
          go_simp
          with_reducible rfl
         rotate_left
         ·exact mP
         refine pure_ (i := 4) (N := some 19) (v := ?_) (a' := ?_) (bA 13 31) rfl rfl (any_of HT_.out (by kernel_rfl)) (fun _ _ _ h => h) (Or.inl ⟨by rfl, ?_⟩) ?_ ?_
         rotate_left
         ·intro w'
          go_simp
          with_reducible rfl
         rotate_left
         ·exact mP
         refine pure_ (i := 6) (N := some 21) (v := ?_) (a' := ?_) (bA 13 95) rfl rfl (any_of HT_.out (by kernel_rfl)) (fun _ _ _ h => h) (Or.inl ⟨by rfl, ?_⟩) ?_ ?_
         rotate_left
         ·intro w'
          go_simp
          with_reducible rfl
         rotate_left
         ·exact mP
         refine pure_ (i := 8) (N := some 23) (v := ?_) (a' := ?_) (bA 13 351) rfl rfl (any_of HT_.out (by kernel_rfl)) (fun _ _ _ h => h) (Or.inl ⟨by rfl, ?_⟩) ?_ ?_
         rotate_left
         ·intro w'
          go_simp
          with_reducible rfl
         rotate_left
         ·exact mP
         refine take_ (i := 5) (N := some 20) (v := ?_) (a' := ?_) (bA 13 383) rfl rfl (take_ofW HT_.out HW_.out (by kernel_rfl)) (fun _ _ _ h => h) (Or.inl ⟨by rfl, ?_⟩) hHeld ?_ ?_
         rotate_left
         ·rintro w' ⟨s0, s1, s2, s3, s4, s5, s6, s7, s8, s9, s10, s11, s12⟩
          go_simp
          with_reducible rfl
         rotate_left
         ·exact mP
         refine pure_ (i := 7) (N := some 22) (v := ?_) (a' := ?_) (bA 13 511) rfl rfl (any_of HT_.out (by kernel_rfl)) (fun _ _ _ h => h) (Or.inl ⟨by rfl, ?_⟩) ?_ ?_
         rotate_left
         ·intro w'
          go_simp
          with_reducible rfl
         rotate_left
         ·exact mP
         refine take_ (i := 9) (N := some 24) (v := ?_) (a' := ?_) (bA 13 1023) rfl rfl (take_ofW HT_.out HW_.out (by kernel_rfl)) (fun _ _ _ h => h) (Or.inl ⟨by rfl, ?_⟩) hHeld ?_ ?_
         rotate_left
         ·rintro w' ⟨s0, s1, s2, s3, s4, s5, s6, s7, s8, s9, s10, s11, s12⟩
          go_simp
          with_reducible rfl
         rotate_left
         ·exact mP
         refine one_ (i := 10) (N := some 25) (bA 13 2047) rfl rfl (one_of HT_.out (by kernel_rfl)) (by decide) (fun K hK => ?_)
         refine goes_ Tryz.func27 (by kernel_rfl) rfl #[.slice (some ad157) y160.length c0_0, .string ((rd_T41 l0_0 x10_1).f0)] (by rfl) rfl rfl mS ?_
         with_reducible refine (foghornref13_place.calls k1 _ _ y160 ((rd_T41 l0_0 x10_1).f0) t164 _ ?side1 ?side2 A11.out).mono ?_
         (case side1 => exact mC ((Kd.C_below HR163.out HB.out)))
         (case side2 => exact HC163.out)
         rintro e w20 ⟨rfl, hb⟩
         refine ⟨_, rfl, ?_⟩
         have n0_ := aA (bB BK156.out hb)
         have n1_ := aA (bB BK158.out hb)
         have n2_ := aA (below_step (mD2 GE156.out GE158.out) hb)
         clear BK156
         clear BK158
         clear HB
         have BK156 := n0_
         have BK158 := n1_
         have HB := n2_
         clear n0_ n1_ n2_
         (try clear hb)
         (try clear hb2)
         (try clear hk)
         (try clear hi)
         refine hK.out _ _ ⟨(blk_cell BK158.out 0).trans rfl, (blk_cell BK158.out 1).trans rfl, (blk_cell BK158.out 2).trans rfl, (blk_cell BK158.out 3).trans rfl, (blk_cell BK158.out 4).trans rfl, (blk_cell BK158.out 5).trans rfl, (blk_cell BK158.out 6).trans rfl, (blk_cell BK158.out 7).trans rfl, (blk_cell BK158.out 8).trans rfl, (blk_cell BK156.out 0).trans rfl, (blk_cell BK156.out 1).trans rfl, (blk_cell BK156.out 2).trans rfl, (blk_cell BK156.out 3).trans rfl⟩ (fun hHeld => ?_)
         clear hK K
         refine norm_ (a' := ?_) ?_ ?_
         rotate_left
         ·show Act.put _ (some 25) _ = _
          simp only [Act.put, List.setIfInBounds_toArray, List.set_cons_zero, List.set_cons_succ, i64_w, i32_w]
          rfl
         refine pure_ (i := 11) (N := some 26) (v := ?_) (a' := ?_) (bA 13 4095) rfl rfl (any_of HT_.out (by kernel_rfl)) (fun _ _ _ h => h) (Or.inl ⟨by rfl, ?_⟩) ?_ ?_
         rotate_left
         ·intro w'
          go_simp
          with_reducible rfl
         rotate_left
         ·exact mP
         refine pure_ (i := 12) (N := some 27) (v := ?_) (a' := ?_) (bA 13 8191) rfl rfl (any_of HT_.out (by kernel_rfl)) (fun _ _ _ h => h) (Or.inl ⟨by rfl, ?_⟩) ?_ ?_
         rotate_left
         ·intro w'
          go_simp
          with_reducible rfl
         rotate_left
         ·exact mP
         refine done_ (done_of HT_.out (by kernel_rfl)) ?_
         try go_wp2
         go_ret
         exact ⟨by first | rfl | (simp [errW_none, errW_some] <;> rfl) | (simp [*, errW_none, errW_some] <;> rfl), by repeat (first | (with_reducible first | exact HB.out | apply below_alloc | apply pw_below_drewN | apply below_drew1 | refine below_set ?_ GE156.out | refine below_set ?_ GE158.out) | exact HB.out)⟩
        ·rw [if_neg c12] at H
         have c12b0 : decide (0 ≤ t164) = false := decide_eq_false c12
         clear c12
         have H' := aA H
         clear H
         have p157 : 0 ≤ (x10_1 : Int) := of_decide_eq_true (by first | (with_reducible assumption) | assumption)
         have q157 : x10_1 < (l0_0.length : Int) := of_decide_eq_true (by first | (with_reducible assumption) | assumption)
         obtain ⟨ad157, e157, hx157_0, hx157_1, hx157_2, hx157_3, hx157_4, hx157_5, hx157_6, hx157_7, hx157_8⟩ := at_T41 HR0_0.out x10_1 p157 q157
         cases e157
         replace hx157_0 := (HB.out.cell (World.block_lt_of_cell? w _ hx157_0)).trans hx157_0
         replace hx157_1 := (HB.out.cell (World.block_lt_of_cell? w _ hx157_1)).trans hx157_1
         replace hx157_2 := (HB.out.cell (World.block_lt_of_cell? w _ hx157_2)).trans hx157_2
         replace hx157_3 := (HB.out.cell (World.block_lt_of_cell? w _ hx157_3)).trans hx157_3
         replace hx157_4 := (HB.out.cell (World.block_lt_of_cell? w _ hx157_4)).trans hx157_4
         replace hx157_5 := (HB.out.cell (World.block_lt_of_cell? w _ hx157_5)).trans hx157_5
         replace hx157_6 := (HB.out.cell (World.block_lt_of_cell? w _ hx157_6)).trans hx157_6
         replace hx157_7 := (HB.out.cell (World.block_lt_of_cell? w _ hx157_7)).trans hx157_7
         replace hx157_8 := (HB.out.cell (World.block_lt_of_cell? w _ hx157_8)).trans hx157_8
         replace p157 := eq_true p157
         replace q157 := eq_true q157
         try go_wp2_with (first | ((with_reducible refine gate_dst (N := 4) rfl ?_); (try (refine gate_guard (by rfl) ?_; dsimp only)); refine box_event ?hg (N := 4) ?hd (cs := #[.string (⟨#[]⟩ : ByteArray), .int .i64 0, .int .i64 0, .int .i64 0, .int .i64 0, .int .i64 0, .int .i64 0, .int .i64 0, .int .i64 0]) (t := 41) ?hr ?_; (case hd => rfl); (case hg => rfl); (case hr => first | (go_simp; done) | (go_simp; rfl)); intro gb158 hg w21 hbox hb; have n0_ := aA (bB BK156.out hb); have n1_ := aA (below_step (mD1 GE156.out) hb); have n2_ := aA (hbox); have n3_ := aA ((bZ hg (mD1 GE156.out))); have n4_ := aA ((bZ hg (mD1 GE156.out))); have n5_ := aA ((bL hg BK156.out)); have n6_ := aA ((bG hg BK156.out)); clear BK156 HB; have BK156 := n0_; have HB := n1_; have BK158 := n2_; have GW158 := n3_; have GE158 := n4_; have NB156_158 := n5_; have NB158_156 := n6_; clear n0_ n1_ n2_ n3_ n4_ n5_ n6_ hb hbox hg; have hnb22 := NB158_156.out; have hnc22 := NB156_158.out; obtain ⟨hcz23_0, hcz23_1, hcz23_2, hcz23_3, hcz23_4, hcz23_5, hcz23_6, hcz23_7, hcz23_8⟩ := bC9 BK158.out; obtain ⟨hfz23_0, hfz23_1, hfz23_2, hfz23_3, hfz23_4, hfz23_5, hfz23_6, hfz23_7, hfz23_8⟩ := bF9 BK158.out))
         have n0_ : Aside0 ((((((((((w21.setCell ⟨gb158, 0, none⟩ (.string ((rd_T41 l0_0 x10_1).f0))).setCell ⟨gb158, 1, none⟩ (.int .i64 ((rd_T41 l0_0 x10_1).f1.f0))).setCell ⟨gb158, 2, none⟩ (.int .i64 ((rd_T41 l0_0 x10_1).f1.f1))).setCell ⟨gb158, 3, none⟩ (.int .i64 ((rd_T41 l0_0 x10_1).f1.f2))).setCell ⟨gb158, 4, none⟩ (.int .i64 ((rd_T41 l0_0 x10_1).f2))).setCell ⟨gb158, 5, none⟩ (.int .i64 ((rd_T41 l0_0 x10_1).f3))).setCell ⟨gb158, 6, none⟩ (.int .i64 ((rd_T41 l0_0 x10_1).f4))).setCell ⟨gb158, 7, none⟩ (.int .i64 ((rd_T41 l0_0 x10_1).f5))).setCell ⟨gb158, 8, none⟩ (.int .i64 ((rd_T41 l0_0 x10_1).f6))).heap[gb156]? = some (.cells #[.slice (some ad157) l0_0.length c0_0, .slice A0_1 l0_1.length c0_1, .int .i64 a0_2, .int .i64 a0_3] 25 (0, 0))) := ⟨by (with_reducible repeat (first | refine blk_drewN ?_ _ | refine blk_drew ?_ | refine blk_alloc ?_ _)); refine blk_far ?_ NB156_158.out _; (with_reducible repeat (first | refine blk_drewN ?_ _ | refine blk_drew ?_ | refine blk_alloc ?_ _)); refine blk_far ?_ NB156_158.out _; (with_reducible repeat (first | refine blk_drewN ?_ _ | refine blk_drew ?_ | refine blk_alloc ?_ _)); refine blk_far ?_ NB156_158.out _; (with_reducible repeat (first | refine blk_drewN ?_ _ | refine blk_drew ?_ | refine blk_alloc ?_ _)); refine blk_far ?_ NB156_158.out _; (with_reducible repeat (first | refine blk_drewN ?_ _ | refine blk_drew ?_ | refine blk_alloc ?_ _)); refine blk_far ?_ NB156_158.out _; (with_reducible repeat (first | refine blk_drewN ?_ _ | refine blk_drew ?_ | refine blk_alloc ?_ _)); refine blk_far ?_ NB156_158.out _; (with_reducible repeat (first | refine blk_drewN ?_ _ | refine blk_drew ?_ | refine blk_alloc ?_ _)); refine blk_far ?_ NB156_158.out _; (with_reducible repeat (first | refine blk_drewN ?_ _ | refine blk_drew ?_ | refine blk_alloc ?_ _)); refine blk_far ?_ NB156_158.out _; (with_reducible repeat (first | refine blk_drewN ?_ _ | refine blk_drew ?_ | refine blk_alloc ?_ _)); refine blk_far ?_ NB156_158.out _; (with_reducible repeat (first | refine blk_drewN ?_ _ | refine blk_drew ?_ | refine blk_alloc ?_ _)); exact BK156.out⟩
         have n1_ : Aside0 ((((((((((w21.setCell ⟨gb158, 0, none⟩ (.string ((rd_T41 l0_0 x10_1).f0))).setCell ⟨gb158, 1, none⟩ (.int .i64 ((rd_T41 l0_0 x10_1).f1.f0))).setCell ⟨gb158, 2, none⟩ (.int .i64 ((rd_T41 l0_0 x10_1).f1.f1))).setCell ⟨gb158, 3, none⟩ (.int .i64 ((rd_T41 l0_0 x10_1).f1.f2))).setCell ⟨gb158, 4, none⟩ (.int .i64 ((rd_T41 l0_0 x10_1).f2))).setCell ⟨gb158, 5, none⟩ (.int .i64 ((rd_T41 l0_0 x10_1).f3))).setCell ⟨gb158, 6, none⟩ (.int .i64 ((rd_T41 l0_0 x10_1).f4))).setCell ⟨gb158, 7, none⟩ (.int .i64 ((rd_T41 l0_0 x10_1).f5))).setCell ⟨gb158, 8, none⟩ (.int .i64 ((rd_T41 l0_0 x10_1).f6))).heap[gb158]? = some (.cells #[.string ((rd_T41 l0_0 x10_1).f0), .int .i64 ((rd_T41 l0_0 x10_1).f1.f0), .int .i64 ((rd_T41 l0_0 x10_1).f1.f1), .int .i64 ((rd_T41 l0_0 x10_1).f1.f2), .int .i64 ((rd_T41 l0_0 x10_1).f2), .int .i64 ((rd_T41 l0_0 x10_1).f3), .int .i64 ((rd_T41 l0_0 x10_1).f4), .int .i64 ((rd_T41 l0_0 x10_1).f5), .int .i64 ((rd_T41 l0_0 x10_1).f6)] 41 (0, 0))) := ⟨by (with_reducible repeat (first | refine blk_drewN ?_ _ | refine blk_drew ?_ | refine blk_alloc ?_ _)); refine blk_put (cs := #[.string ((rd_T41 l0_0 x10_1).f0), .int .i64 ((rd_T41 l0_0 x10_1).f1.f0), .int .i64 ((rd_T41 l0_0 x10_1).f1.f1), .int .i64 ((rd_T41 l0_0 x10_1).f1.f2), .int .i64 ((rd_T41 l0_0 x10_1).f2), .int .i64 ((rd_T41 l0_0 x10_1).f3), .int .i64 ((rd_T41 l0_0 x10_1).f4), .int .i64 ((rd_T41 l0_0 x10_1).f5), .int .i64 0]) ?_ 8 _ rfl; (with_reducible repeat (first | refine blk_drewN ?_ _ | refine blk_drew ?_ | refine blk_alloc ?_ _)); refine blk_put (cs := #[.string ((rd_T41 l0_0 x10_1).f0), .int .i64 ((rd_T41 l0_0 x10_1).f1.f0), .int .i64 ((rd_T41 l0_0 x10_1).f1.f1), .int .i64 ((rd_T41 l0_0 x10_1).f1.f2), .int .i64 ((rd_T41 l0_0 x10_1).f2), .int .i64 ((rd_T41 l0_0 x10_1).f3), .int .i64 ((rd_T41 l0_0 x10_1).f4), .int .i64 0, .int .i64 0]) ?_ 7 _ rfl; (with_reducible repeat (first | refine blk_drewN ?_ _ | refine blk_drew ?_ | refine blk_alloc ?_ _)); refine blk_put (cs := #[.string ((rd_T41 l0_0 x10_1).f0), .int .i64 ((rd_T41 l0_0 x10_1).f1.f0), .int .i64 ((rd_T41 l0_0 x10_1).f1.f1), .int .i64 ((rd_T41 l0_0 x10_1).f1.f2), .int .i64 ((rd_T41 l0_0 x10_1).f2), .int .i64 ((rd_T41 l0_0 x10_1).f3), .int .i64 0, .int .i64 0, .int .i64 0]) ?_ 6 _ rfl; (with_reducible repeat (first | refine blk_drewN ?_ _ | refine blk_drew ?_ | refine blk_alloc ?_ _)); refine blk_put (cs := #[.string ((rd_T41 l0_0 x10_1).f0), .int .i64 ((rd_T41 l0_0 x10_1).f1.f0), .int .i64 ((rd_T41 l0_0 x10_1).f1.f1), .int .i64 ((rd_T41 l0_0 x10_1).f1.f2), .int .i64 ((rd_T41 l0_0 x10_1).f2), .int .i64 0, .int .i64 0, .int .i64 0, .int .i64 0]) ?_ 5 _ rfl; (with_reducible repeat (first | refine blk_drewN ?_ _ | refine blk_drew ?_ | refine blk_alloc ?_ _)); refine blk_put (cs := #[.string ((rd_T41 l0_0 x10_1).f0), .int .i64 ((rd_T41 l0_0 x10_1).f1.f0), .int .i64 ((rd_T41 l0_0 x10_1).f1.f1), .int .i64 ((rd_T41 l0_0 x10_1).f1.f2), .int .i64 0, .int .i64 0, .int .i64 0, .int .i64 0, .int .i64 0]) ?_ 4 _ rfl; (with_reducible repeat (first | refine blk_drewN ?_ _ | refine blk_drew ?_ | refine blk_alloc ?_ _)); refine blk_put (cs := #[.string ((rd_T41 l0_0 x10_1).f0), .int .i64 ((rd_T41 l0_0 x10_1).f1.f0), .int .i64 ((rd_T41 l0_0 x10_1).f1.f1), .int .i64 0, .int .i64 0, .int .i64 0, .int .i64 0, .int .i64 0, .int .i64 0]) ?_ 3 _ rfl; (with_reducible repeat (first | refine blk_drewN ?_ _ | refine blk_drew ?_ | refine blk_alloc ?_ _)); refine blk_put (cs := #[.string ((rd_T41 l0_0 x10_1).f0), .int .i64 ((rd_T41 l0_0 x10_1).f1.f0), .int .i64 0, .int .i64 0, .int .i64 0, .int .i64 0, .int .i64 0, .int .i64 0, .int .i64 0]) ?_ 2 _ rfl; (with_reducible repeat (first | refine blk_drewN ?_ _ | refine blk_drew ?_ | refine blk_alloc ?_ _)); refine blk_put (cs := #[.string ((rd_T41 l0_0 x10_1).f0), .int .i64 0, .int .i64 0, .int .i64 0, .int .i64 0, .int .i64 0, .int .i64 0, .int .i64 0, .int .i64 0]) ?_ 1 _ rfl; (with_reducible repeat (first | refine blk_drewN ?_ _ | refine blk_drew ?_ | refine blk_alloc ?_ _)); refine blk_put (cs := #[.string (⟨#[]⟩ : ByteArray), .int .i64 0, .int .i64 0, .int .i64 0, .int .i64 0, .int .i64 0, .int .i64 0, .int .i64 0, .int .i64 0]) ?_ 0 _ rfl; (with_reducible repeat (first | refine blk_drewN ?_ _ | refine blk_drew ?_ | refine blk_alloc ?_ _)); exact BK158.out⟩
         have n2_ : Aside0 (Below w.heap.size w (((((((((w21.setCell ⟨gb158, 0, none⟩ (.string ((rd_T41 l0_0 x10_1).f0))).setCell ⟨gb158, 1, none⟩ (.int .i64 ((rd_T41 l0_0 x10_1).f1.f0))).setCell ⟨gb158, 2, none⟩ (.int .i64 ((rd_T41 l0_0 x10_1).f1.f1))).setCell ⟨gb158, 3, none⟩ (.int .i64 ((rd_T41 l0_0 x10_1).f1.f2))).setCell ⟨gb158, 4, none⟩ (.int .i64 ((rd_T41 l0_0 x10_1).f2))).setCell ⟨gb158, 5, none⟩ (.int .i64 ((rd_T41 l0_0 x10_1).f3))).setCell ⟨gb158, 6, none⟩ (.int .i64 ((rd_T41 l0_0 x10_1).f4))).setCell ⟨gb158, 7, none⟩ (.int .i64 ((rd_T41 l0_0 x10_1).f5))).setCell ⟨gb158, 8, none⟩ (.int .i64 ((rd_T41 l0_0 x10_1).f6)))) := ⟨by repeat (first | (with_reducible first | exact HB.out | apply below_alloc | apply pw_below_drewN | apply below_drew1 | refine below_set ?_ GE156.out | refine below_set ?_ GE158.out) | exact HB.out)⟩
         (try clear BK156)
         (try clear BK158)
         (try clear HB)
         generalize (((((((((w21.setCell ⟨gb158, 0, none⟩ (.string ((rd_T41 l0_0 x10_1).f0))).setCell ⟨gb158, 1, none⟩ (.int .i64 ((rd_T41 l0_0 x10_1).f1.f0))).setCell ⟨gb158, 2, none⟩ (.int .i64 ((rd_T41 l0_0 x10_1).f1.f1))).setCell ⟨gb158, 3, none⟩ (.int .i64 ((rd_T41 l0_0 x10_1).f1.f2))).setCell ⟨gb158, 4, none⟩ (.int .i64 ((rd_T41 l0_0 x10_1).f2))).setCell ⟨gb158, 5, none⟩ (.int .i64 ((rd_T41 l0_0 x10_1).f3))).setCell ⟨gb158, 6, none⟩ (.int .i64 ((rd_T41 l0_0 x10_1).f4))).setCell ⟨gb158, 7, none⟩ (.int .i64 ((rd_T41 l0_0 x10_1).f5))).setCell ⟨gb158, 8, none⟩ (.int .i64 ((rd_T41 l0_0 x10_1).f6))) = w24 at n0_ n1_ n2_ ⊢
         have BK156 := n0_
         have BK158 := n1_
         have HB := n2_
         clear n0_ n1_ n2_
         have n0_ := aA (blk_drew BK156.out)
         have n1_ := aA (blk_drew BK158.out)
         have n2_ := aA (below_drew1 HB.out)
         clear BK156
         clear BK158
         clear HB
         have BK156 := n0_
         have BK158 := n1_
         have HB := n2_
         clear n0_ n1_ n2_
         refine start_ (n := 13) (S := fun w' => w'.cell? ⟨gb158, 0, none⟩ = some (.string ((rd_T41 l0_0 x10_1).f0)) ∧ w'.cell? ⟨gb158, 1, none⟩ = some (.int .i64 ((rd_T41 l0_0 x10_1).f1.f0)) ∧ w'.cell? ⟨gb158, 2, none⟩ = some (.int .i64 ((rd_T41 l0_0 x10_1).f1.f1)) ∧ w'.cell? ⟨gb158, 3, none⟩ = some (.int .i64 ((rd_T41 l0_0 x10_1).f1.f2)) ∧ w'.cell? ⟨gb158, 4, none⟩ = some (.int .i64 ((rd_T41 l0_0 x10_1).f2)) ∧ w'.cell? ⟨gb158, 5, none⟩ = some (.int .i64 ((rd_T41 l0_0 x10_1).f3)) ∧ w'.cell? ⟨gb158, 6, none⟩ = some (.int .i64 ((rd_T41 l0_0 x10_1).f4)) ∧ w'.cell? ⟨gb158, 7, none⟩ = some (.int .i64 ((rd_T41 l0_0 x10_1).f5)) ∧ w'.cell? ⟨gb158, 8, none⟩ = some (.int .i64 ((rd_T41 l0_0 x10_1).f6)) ∧ w'.cell? ⟨gb156, 0, none⟩ = some (.slice (some ad157) l0_0.length c0_0) ∧ w'.cell? ⟨gb156, 1, none⟩ = some (.slice A0_1 l0_1.length c0_1) ∧ w'.cell? ⟨gb156, 2, none⟩ = some (.int .i64 a0_2) ∧ w'.cell? ⟨gb156, 3, none⟩ = some (.int .i64 a0_3)) (ds := []) (bA 13 0) (by kernel_rfl) rfl rfl ⟨(blk_cell BK158.out 0).trans rfl, (blk_cell BK158.out 1).trans rfl, (blk_cell BK158.out 2).trans rfl, (blk_cell BK158.out 3).trans rfl, (blk_cell BK158.out 4).trans rfl, (blk_cell BK158.out 5).trans rfl, (blk_cell BK158.out 6).trans rfl, (blk_cell BK158.out 7).trans rfl, (blk_cell BK158.out 8).trans rfl, (blk_cell BK156.out 0).trans rfl, (blk_cell BK156.out 1).trans rfl, (blk_cell BK156.out 2).trans rfl, (blk_cell BK156.out 3).trans rfl⟩ (fun hHeld => ?_); refine with_tabW foghornref13_Right.tab4 foghornref13_Right.bits4 (fun HT_ HW_ => ?_)
         generalize w24.drew = w25 at BK156 BK158 HB hHeld ⊢
         refine take_ (i := 0) (N := some 15) (v := ?_) (a' := ?_) (bA 13 1) rfl rfl (take_ofW HT_.out HW_.out (by kernel_rfl)) (fun _ _ _ h => h) (Or.inl ⟨by rfl, ?_⟩) hHeld ?_ ?_
         rotate_left
         ·rintro w' ⟨s0, s1, s2, s3, s4, s5, s6, s7, s8, s9, s10, s11, s12⟩
          go_simp
          with_reducible rfl
         rotate_left
         ·exact mP
         refine one_ (i := 1) (N := some 16) (bA 13 3) rfl rfl (one_of HT_.out (by kernel_rfl)) (by decide) (fun K hK => ?_)
         refine goes_ Tryz.func26 (by kernel_rfl) rfl #[.agg #[.string ((rd_T41 l0_0 x10_1).f0), .int .i64 ((rd_T41 l0_0 x10_1).f1.f0), .int .i64 ((rd_T41 l0_0 x10_1).f1.f1), .int .i64 ((rd_T41 l0_0 x10_1).f1.f2), .int .i64 ((rd_T41 l0_0 x10_1).f2), .int .i64 ((rd_T41 l0_0 x10_1).f3), .int .i64 ((rd_T41 l0_0 x10_1).f4), .int .i64 ((rd_T41 l0_0 x10_1).f5), .int .i64 ((rd_T41 l0_0 x10_1).f6)]] (by rfl) rfl rfl mS ?_
         with_reducible refine (foghornref13_receiver.calls k1 ((rd_T41 l0_0 x10_1).f0) ((rd_T41 l0_0 x10_1).f1.f0) ((rd_T41 l0_0 x10_1).f1.f1) ((rd_T41 l0_0 x10_1).f1.f2) ((rd_T41 l0_0 x10_1).f2) ((rd_T41 l0_0 x10_1).f3) ((rd_T41 l0_0 x10_1).f4) ((rd_T41 l0_0 x10_1).f5) ((rd_T41 l0_0 x10_1).f6) true _ A7.out).mono ?_
         rintro e w26 ⟨rfl, hb⟩
         refine ⟨_, rfl, ?_⟩
         have n0_ := aA (bB BK156.out hb)
         have n1_ := aA (bB BK158.out hb)
         have n2_ := aA (below_step (mD2 GE156.out GE158.out) hb)
         clear BK156
         clear BK158
         clear HB
         have BK156 := n0_
         have BK158 := n1_
         have HB := n2_
         clear n0_ n1_ n2_
         (try clear hb)
         (try clear hb2)
         (try clear hk)
         (try clear hi)
         have q27 : (x10_1 : Int) ≤ ((l0_0.length : Int) : Int) := of_decide_eq_true (by first | (with_reducible assumption) | assumption)
         obtain ⟨i027, hi027, _, hsz27, _⟩ := info_parts info41
         have hroom27 : l0_0.length ≤ c0_0 := HC0_0.out
         have hC27 : Kd.C k41 _ (some ad157) l0_0.length l0_0 := HR0_0.out
         have hcut27 := cut_to (P := Tryz.prog) 22 41 .i64 Tryz.underlying22 hi027 (some ad157) l0_0.length c0_0 x10_1 (of_decide_eq_true (by first | (with_reducible assumption) | assumption)) q27 hroom27
         have hr27 := Kd.C_take (m := (x10_1 : Int).toNat) hC27 (by omega)
         have hy27 : y160.length = (x10_1 : Int).toNat := (by rw [Ny160.out, List.length_take]; omega)
         rw [← Ny160.out] at hr27
         rw [← hy27] at hcut27
         have HR163 := aA hr27
         have HC163 := aA (show y160.length ≤ c0_0 from by omega)
         clear hr27 hC27 hroom27 hi027 hsz27
         have KY27 := aA hy27
         clear hy27
         replace q27 := eq_true q27
         refine hK.out _ _ ⟨(blk_cell BK158.out 0).trans rfl, (blk_cell BK158.out 1).trans rfl, (blk_cell BK158.out 2).trans rfl, (blk_cell BK158.out 3).trans rfl, (blk_cell BK158.out 4).trans rfl, (blk_cell BK158.out 5).trans rfl, (blk_cell BK158.out 6).trans rfl, (blk_cell BK158.out 7).trans rfl, (blk_cell BK158.out 8).trans rfl, (blk_cell BK156.out 0).trans rfl, (blk_cell BK156.out 1).trans rfl, (blk_cell BK156.out 2).trans rfl, (blk_cell BK156.out 3).trans rfl⟩ (fun hHeld => ?_)
         clear hK K
         refine norm_ (a' := ?_) ?_ ?_
         rotate_left
         ·show Act.put _ (some 16) _ = _
          simp only [Act.put, List.setIfInBounds_toArray, List.set_cons_zero, List.set_cons_succ, i64_w, i32_w]
          rfl
         refine pure_ (i := 2) (N := some 17) (v := ?_) (a' := ?_) (bA 13 7) rfl rfl (any_of HT_.out (by kernel_rfl)) (fun _ _ _ h => h) (Or.inl ⟨by rfl, ?_⟩) ?_ ?_
         rotate_left
         ·intro w'
          go_simp
          with_reducible rfl
         rotate_left
         ·exact mP
         refine pure_ (i := 3) (N := some 18) (v := ?_) (a' := ?_) (bA 13 15) rfl rfl (any_of HT_.out (by kernel_rfl)) (fun _ _ _ h => h) (Or.inl ⟨by rfl, ?_⟩) ?_ ?_
         rotate_left
         ·intro w'
          go_simp
          with_reducible rfl
         rotate_left
         ·exact mP
         refine pure_ (i := 4) (N := some 19) (v := ?_) (a' := ?_) (bA 13 31) rfl rfl (any_of HT_.out (by kernel_rfl)) (fun _ _ _ h => h) (Or.inl ⟨by rfl, ?_⟩) ?_ ?_
         rotate_left
         ·intro w'
          go_simp
          with_reducible rfl
         rotate_left
         ·exact mP
         refine pure_ (i := 6) (N := some 21) (v := ?_) (a' := ?_) (bA 13 95) rfl rfl (any_of HT_.out (by kernel_rfl)) (fun _ _ _ h => h) (Or.inl ⟨by rfl, ?_⟩) ?_ ?_
         rotate_left
         ·intro w'
          go_simp
          with_reducible rfl
         rotate_left
         ·exact mP
         refine pure_ (i := 8) (N := some 23) (v := ?_) (a' := ?_) (bA 13 351) rfl rfl (any_of HT_.out (by kernel_rfl)) (fun _ _ _ h => h) (Or.inl ⟨by rfl, ?_⟩) ?_ ?_
         rotate_left
         ·intro w'
          go_simp
          with_reducible rfl
         rotate_left
         ·exact mP
         refine take_ (i := 5) (N := some 20) (v := ?_) (a' := ?_) (bA 13 383) rfl rfl (take_ofW HT_.out HW_.out (by kernel_rfl)) (fun _ _ _ h => h) (Or.inl ⟨by rfl, ?_⟩) hHeld ?_ ?_
         rotate_left
         ·rintro w' ⟨s0, s1, s2, s3, s4, s5, s6, s7, s8, s9, s10, s11, s12⟩
          go_simp
          with_reducible rfl
         rotate_left
         ·exact mP
         refine pure_ (i := 7) (N := some 22) (v := ?_) (a' := ?_) (bA 13 511) rfl rfl (any_of HT_.out (by kernel_rfl)) (fun _ _ _ h => h) (Or.inl ⟨by rfl, ?_⟩) ?_ ?_
         rotate_left
         ·intro w'
          go_simp
          with_reducible rfl
         rotate_left
         ·exact mP
         refine take_ (i := 9) (N := some 24) (v := ?_) (a' := ?_) (bA 13 1023) rfl rfl (take_ofW HT_.out HW_.out (by kernel_rfl)) (fun _ _ _ h => h) (Or.inl ⟨by rfl, ?_⟩) hHeld ?_ ?_
         rotate_left
         ·rintro w' ⟨s0, s1, s2, s3, s4, s5, s6, s7, s8, s9, s10, s11, s12⟩
          go_simp
          with_reducible rfl
         rotate_left
         ·exact mP
         refine one_ (i := 10) (N := some 25) (bA 13 2047) rfl rfl (one_of HT_.out (by kernel_rfl)) (by decide) (fun K hK => ?_)
         refine goes_ Tryz.func27 (by kernel_rfl) rfl #[.slice (some ad157) y160.length c0_0, .string ((rd_T41 l0_0 x10_1).f0)] (by rfl) rfl rfl mS ?_
         with_reducible refine (foghornref13_place.calls k1 _ _ y160 ((rd_T41 l0_0 x10_1).f0) t164 _ ?side1 ?side2 A11.out).mono ?_
         (case side1 => exact mC ((Kd.C_below HR163.out HB.out)))
         (case side2 => exact HC163.out)
         rintro e w28 ⟨rfl, hb⟩
         refine ⟨_, rfl, ?_⟩
         have n0_ := aA (bB BK156.out hb)
         have n1_ := aA (bB BK158.out hb)
         have n2_ := aA (below_step (mD2 GE156.out GE158.out) hb)
         clear BK156
         clear BK158
         clear HB
         have BK156 := n0_
         have BK158 := n1_
         have HB := n2_
         clear n0_ n1_ n2_
         (try clear hb)
         (try clear hb2)
         (try clear hk)
         (try clear hi)
         refine hK.out _ _ ⟨(blk_cell BK158.out 0).trans rfl, (blk_cell BK158.out 1).trans rfl, (blk_cell BK158.out 2).trans rfl, (blk_cell BK158.out 3).trans rfl, (blk_cell BK158.out 4).trans rfl, (blk_cell BK158.out 5).trans rfl, (blk_cell BK158.out 6).trans rfl, (blk_cell BK158.out 7).trans rfl, (blk_cell BK158.out 8).trans rfl, (blk_cell BK156.out 0).trans rfl, (blk_cell BK156.out 1).trans rfl, (blk_cell BK156.out 2).trans rfl, (blk_cell BK156.out 3).trans rfl⟩ (fun hHeld => ?_)
         clear hK K
         refine norm_ (a' := ?_) ?_ ?_
         rotate_left
         ·show Act.put _ (some 25) _ = _
          simp only [Act.put, List.setIfInBounds_toArray, List.set_cons_zero, List.set_cons_succ, i64_w, i32_w]
          rfl
         refine pure_ (i := 11) (N := some 26) (v := ?_) (a' := ?_) (bA 13 4095) rfl rfl (any_of HT_.out (by kernel_rfl)) (fun _ _ _ h => h) (Or.inl ⟨by rfl, ?_⟩) ?_ ?_
         rotate_left
         ·intro w'
          go_simp
          with_reducible rfl
         rotate_left
         ·exact mP
         refine pure_ (i := 12) (N := some 27) (v := ?_) (a' := ?_) (bA 13 8191) rfl rfl (any_of HT_.out (by kernel_rfl)) (fun _ _ _ h => h) (Or.inl ⟨by rfl, ?_⟩) ?_ ?_
         rotate_left
         ·intro w'
          go_simp
          with_reducible rfl
         rotate_left
         ·exact mP
         refine done_ (done_of HT_.out (by kernel_rfl)) ?_
         try go_wp2
         go_roundg k1
         case measure => have := HK1.out; omega
         case rel => exact ⟨(wrap64 (x10_1 + 1)), (by first | rfl | (simp; done) | (simp [*]; done)), H', ⟨by have := HK1.out; omega⟩, ⟨by (with_reducible repeat (first | refine blk_drewN ?_ _ | refine blk_drew ?_ | refine blk_alloc ?_ _)); exact BK156.out⟩, ⟨by repeat (first | (with_reducible first | exact HB.out | apply below_alloc | apply pw_below_drewN | apply below_drew1 | refine below_set ?_ GE156.out | refine below_set ?_ GE158.out) | exact HB.out)⟩⟩
       ·rw [if_neg c10] at H
        exact absurd H (by simp)
      ·replace c8 := Bool.eq_false_iff.mpr c8
       subst c8
       have H1 : (some false) = some r := by rw [if_neg (show ¬ (false = true) by decide)] at H; exact H
       clear H
       have H := H1
       clear H1
       obtain rfl := Option.some.inj H
       have p157 : 0 ≤ (x10_1 : Int) := of_decide_eq_true (by first | (with_reducible assumption) | assumption)
       have q157 : x10_1 < (l0_0.length : Int) := of_decide_eq_true (by first | (with_reducible assumption) | assumption)
       obtain ⟨ad157, e157, hx157_0, hx157_1, hx157_2, hx157_3, hx157_4, hx157_5, hx157_6, hx157_7, hx157_8⟩ := at_T41 HR0_0.out x10_1 p157 q157
       cases e157
       replace hx157_0 := (HB.out.cell (World.block_lt_of_cell? w _ hx157_0)).trans hx157_0
       replace hx157_1 := (HB.out.cell (World.block_lt_of_cell? w _ hx157_1)).trans hx157_1
       replace hx157_2 := (HB.out.cell (World.block_lt_of_cell? w _ hx157_2)).trans hx157_2
       replace hx157_3 := (HB.out.cell (World.block_lt_of_cell? w _ hx157_3)).trans hx157_3
       replace hx157_4 := (HB.out.cell (World.block_lt_of_cell? w _ hx157_4)).trans hx157_4
       replace hx157_5 := (HB.out.cell (World.block_lt_of_cell? w _ hx157_5)).trans hx157_5
       replace hx157_6 := (HB.out.cell (World.block_lt_of_cell? w _ hx157_6)).trans hx157_6
       replace hx157_7 := (HB.out.cell (World.block_lt_of_cell? w _ hx157_7)).trans hx157_7
       replace hx157_8 := (HB.out.cell (World.block_lt_of_cell? w _ hx157_8)).trans hx157_8
       replace p157 := eq_true p157
       replace q157 := eq_true q157
       try go_wp2_with (first | ((with_reducible refine gate_dst (N := 4) rfl ?_); (try (refine gate_guard (by rfl) ?_; dsimp only)); refine box_event ?hg (N := 4) ?hd (cs := #[.string (⟨#[]⟩ : ByteArray), .int .i64 0, .int .i64 0, .int .i64 0, .int .i64 0, .int .i64 0, .int .i64 0, .int .i64 0, .int .i64 0]) (t := 41) ?hr ?_; (case hd => rfl); (case hg => rfl); (case hr => first | (go_simp; done) | (go_simp; rfl)); intro gb158 hg w29 hbox hb; have n0_ := aA (bB BK156.out hb); have n1_ := aA (below_step (mD1 GE156.out) hb); have n2_ := aA (hbox); have n3_ := aA ((bZ hg (mD1 GE156.out))); have n4_ := aA ((bZ hg (mD1 GE156.out))); have n5_ := aA ((bL hg BK156.out)); have n6_ := aA ((bG hg BK156.out)); clear BK156 HB; have BK156 := n0_; have HB := n1_; have BK158 := n2_; have GW158 := n3_; have GE158 := n4_; have NB156_158 := n5_; have NB158_156 := n6_; clear n0_ n1_ n2_ n3_ n4_ n5_ n6_ hb hbox hg; have hnb30 := NB158_156.out; have hnc30 := NB156_158.out; obtain ⟨hcz31_0, hcz31_1, hcz31_2, hcz31_3, hcz31_4, hcz31_5, hcz31_6, hcz31_7, hcz31_8⟩ := bC9 BK158.out; obtain ⟨hfz31_0, hfz31_1, hfz31_2, hfz31_3, hfz31_4, hfz31_5, hfz31_6, hfz31_7, hfz31_8⟩ := bF9 BK158.out))
       have n0_ : Aside0 ((((((((((w29.setCell ⟨gb158, 0, none⟩ (.string ((rd_T41 l0_0 x10_1).f0))).setCell ⟨gb158, 1, none⟩ (.int .i64 ((rd_T41 l0_0 x10_1).f1.f0))).setCell ⟨gb158, 2, none⟩ (.int .i64 ((rd_T41 l0_0 x10_1).f1.f1))).setCell ⟨gb158, 3, none⟩ (.int .i64 ((rd_T41 l0_0 x10_1).f1.f2))).setCell ⟨gb158, 4, none⟩ (.int .i64 ((rd_T41 l0_0 x10_1).f2))).setCell ⟨gb158, 5, none⟩ (.int .i64 ((rd_T41 l0_0 x10_1).f3))).setCell ⟨gb158, 6, none⟩ (.int .i64 ((rd_T41 l0_0 x10_1).f4))).setCell ⟨gb158, 7, none⟩ (.int .i64 ((rd_T41 l0_0 x10_1).f5))).setCell ⟨gb158, 8, none⟩ (.int .i64 ((rd_T41 l0_0 x10_1).f6))).heap[gb156]? = some (.cells #[.slice (some ad157) l0_0.length c0_0, .slice A0_1 l0_1.length c0_1, .int .i64 a0_2, .int .i64 a0_3] 25 (0, 0))) := ⟨by (with_reducible repeat (first | refine blk_drewN ?_ _ | refine blk_drew ?_ | refine blk_alloc ?_ _)); refine blk_far ?_ NB156_158.out _; (with_reducible repeat (first | refine blk_drewN ?_ _ | refine blk_drew ?_ | refine blk_alloc ?_ _)); refine blk_far ?_ NB156_158.out _; (with_reducible repeat (first | refine blk_drewN ?_ _ | refine blk_drew ?_ | refine blk_alloc ?_ _)); refine blk_far ?_ NB156_158.out _; (with_reducible repeat (first | refine blk_drewN ?_ _ | refine blk_drew ?_ | refine blk_alloc ?_ _)); refine blk_far ?_ NB156_158.out _; (with_reducible repeat (first | refine blk_drewN ?_ _ | refine blk_drew ?_ | refine blk_alloc ?_ _)); refine blk_far ?_ NB156_158.out _; (with_reducible repeat (first | refine blk_drewN ?_ _ | refine blk_drew ?_ | refine blk_alloc ?_ _)); refine blk_far ?_ NB156_158.out _; (with_reducible repeat (first | refine blk_drewN ?_ _ | refine blk_drew ?_ | refine blk_alloc ?_ _)); refine blk_far ?_ NB156_158.out _; (with_reducible repeat (first | refine blk_drewN ?_ _ | refine blk_drew ?_ | refine blk_alloc ?_ _)); refine blk_far ?_ NB156_158.out _; (with_reducible repeat (first | refine blk_drewN ?_ _ | refine blk_drew ?_ | refine blk_alloc ?_ _)); refine blk_far ?_ NB156_158.out _; (with_reducible repeat (first | refine blk_drewN ?_ _ | refine blk_drew ?_ | refine blk_alloc ?_ _)); exact BK156.out⟩
       have n1_ : Aside0 ((((((((((w29.setCell ⟨gb158, 0, none⟩ (.string ((rd_T41 l0_0 x10_1).f0))).setCell ⟨gb158, 1, none⟩ (.int .i64 ((rd_T41 l0_0 x10_1).f1.f0))).setCell ⟨gb158, 2, none⟩ (.int .i64 ((rd_T41 l0_0 x10_1).f1.f1))).setCell ⟨gb158, 3, none⟩ (.int .i64 ((rd_T41 l0_0 x10_1).f1.f2))).setCell ⟨gb158, 4, none⟩ (.int .i64 ((rd_T41 l0_0 x10_1).f2))).setCell ⟨gb158, 5, none⟩ (.int .i64 ((rd_T41 l0_0 x10_1).f3))).setCell ⟨gb158, 6, none⟩ (.int .i64 ((rd_T41 l0_0 x10_1).f4))).setCell ⟨gb158, 7, none⟩ (.int .i64 ((rd_T41 l0_0 x10_1).f5))).setCell ⟨gb158, 8, none⟩ (.int .i64 ((rd_T41 l0_0 x10_1).f6))).heap[gb158]? = some (.cells #[.string ((rd_T41 l0_0 x10_1).f0), .int .i64 ((rd_T41 l0_0 x10_1).f1.f0), .int .i64 ((rd_T41 l0_0 x10_1).f1.f1), .int .i64 ((rd_T41 l0_0 x10_1).f1.f2), .int .i64 ((rd_T41 l0_0 x10_1).f2), .int .i64 ((rd_T41 l0_0 x10_1).f3), .int .i64 ((rd_T41 l0_0 x10_1).f4), .int .i64 ((rd_T41 l0_0 x10_1).f5), .int .i64 ((rd_T41 l0_0 x10_1).f6)] 41 (0, 0))) := ⟨by (with_reducible repeat (first | refine blk_drewN ?_ _ | refine blk_drew ?_ | refine blk_alloc ?_ _)); refine blk_put (cs := #[.string ((rd_T41 l0_0 x10_1).f0), .int .i64 ((rd_T41 l0_0 x10_1).f1.f0), .int .i64 ((rd_T41 l0_0 x10_1).f1.f1), .int .i64 ((rd_T41 l0_0 x10_1).f1.f2), .int .i64 ((rd_T41 l0_0 x10_1).f2), .int .i64 ((rd_T41 l0_0 x10_1).f3), .int .i64 ((rd_T41 l0_0 x10_1).f4), .int .i64 ((rd_T41 l0_0 x10_1).f5), .int .i64 0]) ?_ 8 _ rfl; (with_reducible repeat (first | refine blk_drewN ?_ _ | refine blk_drew ?_ | refine blk_alloc ?_ _)); refine blk_put (cs := #[.string ((rd_T41 l0_0 x10_1).f0), .int .i64 ((rd_T41 l0_0 x10_1).f1.f0), .int .i64 ((rd_T41 l0_0 x10_1).f1.f1), .int .i64 ((rd_T41 l0_0 x10_1).f1.f2), .int .i64 ((rd_T41 l0_0 x10_1).f2), .int .i64 ((rd_T41 l0_0 x10_1).f3), .int .i64 ((rd_T41 l0_0 x10_1).f4), .int .i64 0, .int .i64 0]) ?_ 7 _ rfl; (with_reducible repeat (first | refine blk_drewN ?_ _ | refine blk_drew ?_ | refine blk_alloc ?_ _)); refine blk_put (cs := #[.string ((rd_T41 l0_0 x10_1).f0), .int .i64 ((rd_T41 l0_0 x10_1).f1.f0), .int .i64 ((rd_T41 l0_0 x10_1).f1.f1), .int .i64 ((rd_T41 l0_0 x10_1).f1.f2), .int .i64 ((rd_T41 l0_0 x10_1).f2), .int .i64 ((rd_T41 l0_0 x10_1).f3), .int .i64 0, .int .i64 0, .int .i64 0]) ?_ 6 _ rfl; (with_reducible repeat (first | refine blk_drewN ?_ _ | refine blk_drew ?_ | refine blk_alloc ?_ _)); refine blk_put (cs := #[.string ((rd_T41 l0_0 x10_1).f0), .int .i64 ((rd_T41 l0_0 x10_1).f1.f0), .int .i64 ((rd_T41 l0_0 x10_1).f1.f1), .int .i64 ((rd_T41 l0_0 x10_1).f1.f2), .int .i64 ((rd_T41 l0_0 x10_1).f2), .int .i64 0, .int .i64 0, .int .i64 0, .int .i64 0]) ?_ 5 _ rfl; (with_reducible repeat (first | refine blk_drewN ?_ _ | refine blk_drew ?_ | refine blk_alloc ?_ _)); refine blk_put (cs := #[.string ((rd_T41 l0_0 x10_1).f0), .int .i64 ((rd_T41 l0_0 x10_1).f1.f0), .int .i64 ((rd_T41 l0_0 x10_1).f1.f1), .int .i64 ((rd_T41 l0_0 x10_1).f1.f2), .int .i64 0, .int .i64 0, .int .i64 0, .int .i64 0, .int .i64 0]) ?_ 4 _ rfl; (with_reducible repeat (first | refine blk_drewN ?_ _ | refine blk_drew ?_ | refine blk_alloc ?_ _)); refine blk_put (cs := #[.string ((rd_T41 l0_0 x10_1).f0), .int .i64 ((rd_T41 l0_0 x10_1).f1.f0), .int .i64 ((rd_T41 l0_0 x10_1).f1.f1), .int .i64 0, .int .i64 0, .int .i64 0, .int .i64 0, .int .i64 0, .int .i64 0]) ?_ 3 _ rfl; (with_reducible repeat (first | refine blk_drewN ?_ _ | refine blk_drew ?_ | refine blk_alloc ?_ _)); refine blk_put (cs := #[.string ((rd_T41 l0_0 x10_1).f0), .int .i64 ((rd_T41 l0_0 x10_1).f1.f0), .int .i64 0, .int .i64 0, .int .i64 0, .int .i64 0, .int .i64 0, .int .i64 0, .int .i64 0]) ?_ 2 _ rfl; (with_reducible repeat (first | refine blk_drewN ?_ _ | refine blk_drew ?_ | refine blk_alloc ?_ _)); refine blk_put (cs := #[.string ((rd_T41 l0_0 x10_1).f0), .int .i64 0, .int .i64 0, .int .i64 0, .int .i64 0, .int .i64 0, .int .i64 0, .int .i64 0, .int .i64 0]) ?_ 1 _ rfl; (with_reducible repeat (first | refine blk_drewN ?_ _ | refine blk_drew ?_ | refine blk_alloc ?_ _)); refine blk_put (cs := #[.string (⟨#[]⟩ : ByteArray), .int .i64 0, .int .i64 0, .int .i64 0, .int .i64 0, .int .i64 0, .int .i64 0, .int .i64 0, .int .i64 0]) ?_ 0 _ rfl; (with_reducible repeat (first | refine blk_drewN ?_ _ | refine blk_drew ?_ | refine blk_alloc ?_ _)); exact BK158.out⟩
       have n2_ : Aside0 (Below w.heap.size w (((((((((w29.setCell ⟨gb158, 0, none⟩ (.string ((rd_T41 l0_0 x10_1).f0))).setCell ⟨gb158, 1, none⟩ (.int .i64 ((rd_T41 l0_0 x10_1).f1.f0))).setCell ⟨gb158, 2, none⟩ (.int .i64 ((rd_T41 l0_0 x10_1).f1.f1))).setCell ⟨gb158, 3, none⟩ (.int .i64 ((rd_T41 l0_0 x10_1).f1.f2))).setCell ⟨gb158, 4, none⟩ (.int .i64 ((rd_T41 l0_0 x10_1).f2))).setCell ⟨gb158, 5, none⟩ (.int .i64 ((rd_T41 l0_0 x10_1).f3))).setCell ⟨gb158, 6, none⟩ (.int .i64 ((rd_T41 l0_0 x10_1).f4))).setCell ⟨gb158, 7, none⟩ (.int .i64 ((rd_T41 l0_0 x10_1).f5))).setCell ⟨gb158, 8, none⟩ (.int .i64 ((rd_T41 l0_0 x10_1).f6)))) := ⟨by repeat (first | (with_reducible first | exact HB.out | apply below_alloc | apply pw_below_drewN | apply below_drew1 | refine below_set ?_ GE156.out | refine below_set ?_ GE158.out) | exact HB.out)⟩
       (try clear BK156)
       (try clear BK158)
       (try clear HB)
       generalize (((((((((w29.setCell ⟨gb158, 0, none⟩ (.string ((rd_T41 l0_0 x10_1).f0))).setCell ⟨gb158, 1, none⟩ (.int .i64 ((rd_T41 l0_0 x10_1).f1.f0))).setCell ⟨gb158, 2, none⟩ (.int .i64 ((rd_T41 l0_0 x10_1).f1.f1))).setCell ⟨gb158, 3, none⟩ (.int .i64 ((rd_T41 l0_0 x10_1).f1.f2))).setCell ⟨gb158, 4, none⟩ (.int .i64 ((rd_T41 l0_0 x10_1).f2))).setCell ⟨gb158, 5, none⟩ (.int .i64 ((rd_T41 l0_0 x10_1).f3))).setCell ⟨gb158, 6, none⟩ (.int .i64 ((rd_T41 l0_0 x10_1).f4))).setCell ⟨gb158, 7, none⟩ (.int .i64 ((rd_T41 l0_0 x10_1).f5))).setCell ⟨gb158, 8, none⟩ (.int .i64 ((rd_T41 l0_0 x10_1).f6))) = w32 at n0_ n1_ n2_ ⊢
       have BK156 := n0_
       have BK158 := n1_
       have HB := n2_
       clear n0_ n1_ n2_
       have n0_ := aA (blk_drew BK156.out)
       have n1_ := aA (blk_drew BK158.out)
       have n2_ := aA (below_drew1 HB.out)
       clear BK156
       clear BK158
       clear HB
       have BK156 := n0_
       have BK158 := n1_
       have HB := n2_
       clear n0_ n1_ n2_
       refine start_ (n := 13) (S := fun w' => w'.cell? ⟨gb158, 0, none⟩ = some (.string ((rd_T41 l0_0 x10_1).f0)) ∧ w'.cell? ⟨gb158, 1, none⟩ = some (.int .i64 ((rd_T41 l0_0 x10_1).f1.f0)) ∧ w'.cell? ⟨gb158, 2, none⟩ = some (.int .i64 ((rd_T41 l0_0 x10_1).f1.f1)) ∧ w'.cell? ⟨gb158, 3, none⟩ = some (.int .i64 ((rd_T41 l0_0 x10_1).f1.f2)) ∧ w'.cell? ⟨gb158, 4, none⟩ = some (.int .i64 ((rd_T41 l0_0 x10_1).f2)) ∧ w'.cell? ⟨gb158, 5, none⟩ = some (.int .i64 ((rd_T41 l0_0 x10_1).f3)) ∧ w'.cell? ⟨gb158, 6, none⟩ = some (.int .i64 ((rd_T41 l0_0 x10_1).f4)) ∧ w'.cell? ⟨gb158, 7, none⟩ = some (.int .i64 ((rd_T41 l0_0 x10_1).f5)) ∧ w'.cell? ⟨gb158, 8, none⟩ = some (.int .i64 ((rd_T41 l0_0 x10_1).f6))) (ds := []) (bA 13 0) (by kernel_rfl) rfl rfl (bC9 BK158.out) (fun hHeld => ?_); refine with_tabW foghornref13_Right.tab4 foghornref13_Right.bits4 (fun HT_ HW_ => ?_)
       generalize w32.drew = w33 at BK156 BK158 HB hHeld ⊢
       refine take_ (i := 0) (N := some 15) (v := ?_) (a' := ?_) (bA 13 1) rfl rfl (take_ofW HT_.out HW_.out (by kernel_rfl)) (fun _ _ _ h => h) (Or.inl ⟨by rfl, ?_⟩) hHeld ?_ ?_
       rotate_left
       ·rintro w' ⟨s0, s1, s2, s3, s4, s5, s6, s7, s8⟩
        go_simp
        with_reducible rfl
       rotate_left
       ·exact mP
       refine one_ (i := 1) (N := some 16) (bA 13 3) rfl rfl (one_of HT_.out (by kernel_rfl)) (by decide) (fun K hK => ?_)
       refine goes_ Tryz.func26 (by kernel_rfl) rfl #[.agg #[.string ((rd_T41 l0_0 x10_1).f0), .int .i64 ((rd_T41 l0_0 x10_1).f1.f0), .int .i64 ((rd_T41 l0_0 x10_1).f1.f1), .int .i64 ((rd_T41 l0_0 x10_1).f1.f2), .int .i64 ((rd_T41 l0_0 x10_1).f2), .int .i64 ((rd_T41 l0_0 x10_1).f3), .int .i64 ((rd_T41 l0_0 x10_1).f4), .int .i64 ((rd_T41 l0_0 x10_1).f5), .int .i64 ((rd_T41 l0_0 x10_1).f6)]] (by rfl) rfl rfl mS ?_
       with_reducible refine (foghornref13_receiver.calls k1 ((rd_T41 l0_0 x10_1).f0) ((rd_T41 l0_0 x10_1).f1.f0) ((rd_T41 l0_0 x10_1).f1.f1) ((rd_T41 l0_0 x10_1).f1.f2) ((rd_T41 l0_0 x10_1).f2) ((rd_T41 l0_0 x10_1).f3) ((rd_T41 l0_0 x10_1).f4) ((rd_T41 l0_0 x10_1).f5) ((rd_T41 l0_0 x10_1).f6) false _ A7.out).mono ?_
       rintro e w34 ⟨rfl, hb⟩
       refine ⟨_, rfl, ?_⟩
       have n0_ := aA (bB BK156.out hb)
       have n1_ := aA (bB BK158.out hb)
       have n2_ := aA (below_step (mD2 GE156.out GE158.out) hb)
       clear BK156
       clear BK158
       clear HB
       have BK156 := n0_
       have BK158 := n1_
       have HB := n2_
       clear n0_ n1_ n2_
       (try clear hb)
       (try clear hb2)
       (try clear hk)
       (try clear hi)
       refine hK.out _ _ (bC9 BK158.out) (fun hHeld => ?_)
       clear hK K
       refine norm_ (a' := ?_) ?_ ?_
       rotate_left
       ·show Act.put _ (some 16) _ = _
        simp only [Act.put, List.setIfInBounds_toArray, List.set_cons_zero, List.set_cons_succ, i64_w, i32_w]
        rfl
       refine pure_ (i := 2) (N := some 17) (v := ?_) (a' := ?_) (bA 13 7) rfl rfl (any_of HT_.out (by kernel_rfl)) (fun _ _ _ h => h) (Or.inl ⟨by rfl, ?_⟩) ?_ ?_
       rotate_left
       ·intro w'
        go_simp
        with_reducible rfl
       rotate_left
       ·exact mP
       refine pure_ (i := 3) (N := some 18) (v := ?_) (a' := ?_) (bA 13 15) rfl rfl (any_of HT_.out (by kernel_rfl)) (fun _ _ _ h => h) (Or.inl ⟨by rfl, ?_⟩) ?_ ?_
       rotate_left
       ·intro w'
        go_simp
        with_reducible rfl
       rotate_left
       ·exact mP
       refine pure_ (i := 4) (N := some 19) (v := undef) (a' := ?_) (bA 13 31) rfl rfl (any_of HT_.out (by kernel_rfl)) (fun _ _ _ h => h) (Or.inr ⟨by rfl, rfl⟩) ?_ ?_
       rotate_left
       ·exact mP
       refine pure_ (i := 5) (N := some 20) (v := undef) (a' := ?_) (bA 13 63) rfl rfl (any_of HT_.out (by kernel_rfl)) (fun _ _ _ h => h) (Or.inr ⟨by rfl, rfl⟩) ?_ ?_
       rotate_left
       ·exact mP
       refine pure_ (i := 6) (N := some 21) (v := undef) (a' := ?_) (bA 13 127) rfl rfl (any_of HT_.out (by kernel_rfl)) (fun _ _ _ h => h) (Or.inr ⟨by rfl, rfl⟩) ?_ ?_
       rotate_left
       ·exact mP
       refine pure_ (i := 7) (N := some 22) (v := undef) (a' := ?_) (bA 13 255) rfl rfl (any_of HT_.out (by kernel_rfl)) (fun _ _ _ h => h) (Or.inr ⟨by rfl, rfl⟩) ?_ ?_
       rotate_left
       ·exact mP
       refine pure_ (i := 8) (N := some 23) (v := undef) (a' := ?_) (bA 13 511) rfl rfl (any_of HT_.out (by kernel_rfl)) (fun _ _ _ h => h) (Or.inr ⟨by rfl, rfl⟩) ?_ ?_
       rotate_left
       ·exact mP
       refine pure_ (i := 9) (N := some 24) (v := undef) (a' := ?_) (bA 13 1023) rfl rfl (any_of HT_.out (by kernel_rfl)) (fun _ _ _ h => h) (Or.inr ⟨by rfl, rfl⟩) ?_ ?_
       rotate_left
       ·exact mP
       refine pure_ (i := 10) (N := some 25) (v := undef) (a' := ?_) (bA 13 2047) rfl rfl (any_of HT_.out (by kernel_rfl)) (fun _ _ _ h => h) (Or.inr ⟨by rfl, rfl⟩) ?_ ?_
       rotate_left
       ·exact mP
       refine pure_ (i := 11) (N := some 26) (v := undef) (a' := ?_) (bA 13 4095) rfl rfl (any_of HT_.out (by kernel_rfl)) (fun _ _ _ h => h) (Or.inr ⟨by rfl, rfl⟩) ?_ ?_
       rotate_left
       ·exact mP
       refine pure_ (i := 12) (N := some 27) (v := ?_) (a' := ?_) (bA 13 8191) rfl rfl (any_of HT_.out (by kernel_rfl)) (fun _ _ _ h => h) (Or.inl ⟨by rfl, ?_⟩) ?_ ?_
       rotate_left
       ·intro w'
        go_simp
        with_reducible rfl
       rotate_left
       ·exact mP
       refine done_ (done_of HT_.out (by kernel_rfl)) ?_
       try go_wp2
       go_ret
       exact ⟨by first | rfl | (simp [errW_none, errW_some] <;> rfl) | (simp [*, errW_none, errW_some] <;> rfl), by repeat (first | (with_reducible first | exact HB.out | apply below_alloc | apply pw_below_drewN | apply below_drew1 | refine below_set ?_ GE156.out | refine below_set ?_ GE158.out) | exact HB.out)⟩
     ·rw [if_neg c6] at H
      exact absurd H (by simp)
    ·rw [if_neg c5] at H
     exact absurd H (by simp)
   ·rw [if_neg c4] at H
    have c4b0 : decide (x10_1 < (l0_0.length : Int)) = false := decide_eq_false c4
    clear c4
    have H' := aA H
    clear H
    obtain ⟨hcz35_0, hcz35_1, hcz35_2, hcz35_3⟩ := bC4 BK156.out
    obtain ⟨hfz35_0, hfz35_1, hfz35_2, hfz35_3⟩ := bF4 BK156.out
    go_wp2
    go_loopg [32] k1 (fun kq v32 w' => ∃ (x32_2 : Int), v32 = .int .i64 x32_2 ∧ Aside0 (foghornref13_Right.l1 kq l0_1 (l0_1.length : Int) x32_2 l0_0 l0_1 a0_2 a0_3 = some r) ∧ Aside0 (kq ≤ k1) ∧ Aside0 (w'.heap[gb156]? = some (.cells #[(.slice A0_0 l0_0.length c0_0), (.slice A0_1 l0_1.length c0_1), .int .i64 a0_2, .int .i64 a0_3] 25 (0, 0))) ∧ Aside0 (Below w.heap.size w w'))
    case atStart => exact ⟨(0), (by first | rfl | (simp; done) | (simp [*]; done)), H', ⟨Nat.le_refl _⟩, ⟨by (with_reducible repeat (first | refine blk_drewN ?_ _ | refine blk_drew ?_ | refine blk_alloc ?_ _)); exact BK156.out⟩, ⟨by repeat (first | (with_reducible first | exact HB.out | apply below_alloc | apply pw_below_drewN | apply below_drew1 | refine below_set ?_ GE156.out) | exact HB.out)⟩⟩
    case round =>
     clear H'
     try clear c1
     try clear p1
     try clear q1
     try clear hx1
     try clear c2
     try clear p2
     try clear q2
     try clear c3
     try clear c4
     try clear c4b0
     try clear c5
     try clear c6
     try clear p6
     try clear c8
     try clear c9
     try clear c9b0
     try clear c10
     try clear c10b0
     try clear c10b1
     try clear c12
     try clear c12b0
     try clear c14
     try clear p15
     try clear q15
     try clear hx15
     try clear q19
     try clear c22
     try clear c26
     try clear c27
     try clear q27
     try clear c30
     try clear hcz15_0 hcz15_1 hcz15_2 hcz15_3 hcz15_4 hcz15_5 hcz15_6 hcz15_7 hcz15_8
     try clear hcz23_0 hcz23_1 hcz23_2 hcz23_3 hcz23_4 hcz23_5 hcz23_6 hcz23_7 hcz23_8
     try clear hcz31_0 hcz31_1 hcz31_2 hcz31_3 hcz31_4 hcz31_5 hcz31_6 hcz31_7 hcz31_8
     try clear hcz35_0 hcz35_1 hcz35_2 hcz35_3
     try clear hfz15_0 hfz15_1 hfz15_2 hfz15_3 hfz15_4 hfz15_5 hfz15_6 hfz15_7 hfz15_8
     try clear hfz23_0 hfz23_1 hfz23_2 hfz23_3 hfz23_4 hfz23_5 hfz23_6 hfz23_7 hfz23_8
     try clear hfz31_0 hfz31_1 hfz31_2 hfz31_3 hfz31_4 hfz31_5 hfz31_6 hfz31_7 hfz31_8
     try clear hfz35_0 hfz35_1 hfz35_2 hfz35_3
     try clear hx157_0
     try clear hx157_1
     try clear hx157_2
     try clear hx157_3
     try clear hx157_4
     try clear hx157_5
     try clear hx157_6
     try clear hx157_7
     try clear hx157_8
     try clear p157
     try clear q157
     try clear q19
     try clear q27
     obtain ⟨x32_2, rfl, HA, HK2, BK156, HB⟩ := hrel
     cases gk with
     | zero => exact absurd HA.out (by simp [foghornref13_Right.l1])
     | succ k2 =>
      have H := HA.out
      clear HA
      simp only [foghornref13_Right.l1] at H
      by_cases c36 : x32_2 < (l0_1.length : Int)
      ·rw [if_pos c36] at H
       have c36b0 : decide (x32_2 < (l0_1.length : Int)) = true := decide_eq_true c36
       clear c36
       by_cases c37 : 0 ≤ x32_2
       ·rw [if_pos c37] at H
        have c37b0 : decide (0 ≤ x32_2) = true := decide_eq_true c37
        clear c37
        by_cases c38 : x32_2 < (l0_1.length : Int)
        ·rw [if_pos c38] at H
         have c38b0 : decide (x32_2 < (l0_1.length : Int)) = true := decide_eq_true c38
         clear c38
         replace H := Option.bind_eq_some_iff.mp H
         obtain ⟨t167, A390, H⟩ := H
         have A39 := aA A390
         clear A390
         by_cases c40 : t167 = true
         ·subst c40
          have H1 : (foghornref13_Right.l1 k2 l0_1 (l0_1.length : Int) (wrap64 (x32_2 + 1)) l0_0 l0_1 a0_2 a0_3) = some r := by rw [if_pos rfl] at H; exact H
          clear H
          have H := H1
          clear H1
          have H' := aA H
          clear H
          have p165 : 0 ≤ (x32_2 : Int) := of_decide_eq_true (by first | (with_reducible assumption) | assumption)
          have q165 : x32_2 < (l0_1.length : Int) := of_decide_eq_true (by first | (with_reducible assumption) | assumption)
          obtain ⟨ad165, A165_0, c165_0, A165_1, c165_1, e165, hx165_0, hx165_1, hl165_0, hi165_0, hl165_1, hi165_1⟩ := at_T46 HR0_1.out x32_2 p165 q165
          cases e165
          replace hx165_0 := (HB.out.cell (World.block_lt_of_cell? w _ hx165_0)).trans hx165_0
          replace hx165_1 := (HB.out.cell (World.block_lt_of_cell? w _ hx165_1)).trans hx165_1
          have HR165_0 := aA hi165_0
          have HC165_0 := aA hl165_0
          clear hi165_0 hl165_0
          have HR165_1 := aA hi165_1
          have HC165_1 := aA hl165_1
          clear hi165_1 hl165_1
          replace p165 := eq_true p165
          replace q165 := eq_true q165
          go_wp2_with (first | ((with_reducible refine gate_dst (N := 6) rfl ?_); (try (refine gate_guard (by rfl) ?_; dsimp only)); refine box_event ?hg (N := 6) ?hd (cs := #[.slice none 0 0, .slice none 0 0]) (t := 46) ?hr ?_; (case hd => rfl); (case hg => rfl); (case hr => first | (go_simp; done) | (go_simp; rfl)); intro gb166 hg w41 hbox hb; have n0_ := aA (bB BK156.out hb); have n1_ := aA (below_step (mD1 GE156.out) hb); have n2_ := aA (hbox); have n3_ := aA ((bZ hg (mD1 GE156.out))); have n4_ := aA ((bZ hg (mD1 GE156.out))); have n5_ := aA ((bL hg BK156.out)); have n6_ := aA ((bG hg BK156.out)); clear BK156 HB; have BK156 := n0_; have HB := n1_; have BK166 := n2_; have GW166 := n3_; have GE166 := n4_; have NB156_166 := n5_; have NB166_156 := n6_; clear n0_ n1_ n2_ n3_ n4_ n5_ n6_ hb hbox hg; have hnb42 := NB166_156.out; have hnc42 := NB156_166.out; obtain ⟨hcz43_0, hcz43_1⟩ := bC2 BK166.out; obtain ⟨hfz43_0, hfz43_1⟩ := bF2 BK166.out; obtain ⟨hcz44_0, hcz44_1, hcz44_2, hcz44_3⟩ := bC4 BK156.out; obtain ⟨hfz44_0, hfz44_1, hfz44_2, hfz44_3⟩ := bF4 BK156.out) | ((with_reducible refine gate_callee (f := 28) rfl ?_); refine goesL_ (some 40) rfl rfl Tryz.func28 (by kernel_rfl) rfl #[.agg #[.slice A165_0 ((rd_T46 l0_1 x32_2).f0).length c165_0, .slice A165_1 ((rd_T46 l0_1 x32_2).f1).length c165_1], .int .i64 (l0_0.length : Int)] rfl mS ?_; (with_reducible refine (foghornref13_route.calls k2 _ _ ((rd_T46 l0_1 x32_2).f0) _ _ ((rd_T46 l0_1 x32_2).f1) (l0_0.length : Int) true _ ?side1 ?side2 ?side3 ?side4 A39.out).mono ?_); (case side1 => exact Kd.C_below HR165_0.out (mD2 GE156.out GE166.out)); (case side2 => exact HC165_0.out); (case side3 => exact Kd.C_below HR165_1.out (mD2 GE156.out GE166.out)); (case side4 => exact HC165_1.out); rintro e w45 ⟨rfl, hb⟩; refine ⟨_, rfl, ?_⟩; have n0_ := aA (blk_below (g := gb156) (o := .cells #[.slice A0_0 l0_0.length c0_0, .slice (some ad165) l0_1.length c0_1, .int .i64 a0_2, .int .i64 a0_3] 25 (0, 0)) (by (with_reducible repeat (first | refine blk_drewN ?_ _ | refine blk_drew ?_ | refine blk_alloc ?_ _)); refine blk_far ?_ NB156_166.out _; (with_reducible repeat (first | refine blk_drewN ?_ _ | refine blk_drew ?_ | refine blk_alloc ?_ _)); refine blk_far ?_ NB156_166.out _; (with_reducible repeat (first | refine blk_drewN ?_ _ | refine blk_drew ?_ | refine blk_alloc ?_ _)); exact BK156.out) hb); have n1_ := aA (blk_below (g := gb166) (o := .cells #[.slice A165_0 ((rd_T46 l0_1 x32_2).f0).length c165_0, .slice A165_1 ((rd_T46 l0_1 x32_2).f1).length c165_1] 46 (0, 0)) (by (with_reducible repeat (first | refine blk_drewN ?_ _ | refine blk_drew ?_ | refine blk_alloc ?_ _)); have h_ := BK166.out; exact pK 1 (pK 0 (h_))) hb); have n2_ := aA (below_step (mD2 GE156.out GE166.out) hb); clear BK156 BK166 HB; have BK156 := n0_; have BK166 := n1_; have HB := n2_; clear n0_ n1_ n2_; (try clear hb); (try clear hb2); (try clear hk); (try clear hi)))
          go_roundg k2
          case measure => have := HK1.out; have := HK2.out; omega
          case rel => exact ⟨(wrap64 (x32_2 + 1)), (by first | rfl | (simp; done) | (simp [*]; done)), H', ⟨by have := HK1.out; have := HK2.out; omega⟩, ⟨by (with_reducible repeat (first | refine blk_drewN ?_ _ | refine blk_drew ?_ | refine blk_alloc ?_ _)); exact BK156.out⟩, ⟨by repeat (first | (with_reducible first | exact HB.out | apply below_alloc | apply pw_below_drewN | apply below_drew1 | refine below_set ?_ GE156.out | refine below_set ?_ GE166.out) | exact HB.out)⟩⟩
         ·replace c40 := Bool.eq_false_iff.mpr c40
          subst c40
          have H1 : (some false) = some r := by rw [if_neg (show ¬ (false = true) by decide)] at H; exact H
          clear H
          have H := H1
          clear H1
          obtain rfl := Option.some.inj H
          have p165 : 0 ≤ (x32_2 : Int) := of_decide_eq_true (by first | (with_reducible assumption) | assumption)
          have q165 : x32_2 < (l0_1.length : Int) := of_decide_eq_true (by first | (with_reducible assumption) | assumption)
          obtain ⟨ad165, A165_0, c165_0, A165_1, c165_1, e165, hx165_0, hx165_1, hl165_0, hi165_0, hl165_1, hi165_1⟩ := at_T46 HR0_1.out x32_2 p165 q165
          cases e165
          replace hx165_0 := (HB.out.cell (World.block_lt_of_cell? w _ hx165_0)).trans hx165_0
          replace hx165_1 := (HB.out.cell (World.block_lt_of_cell? w _ hx165_1)).trans hx165_1
          have HR165_0 := aA hi165_0
          have HC165_0 := aA hl165_0
          clear hi165_0 hl165_0
          have HR165_1 := aA hi165_1
          have HC165_1 := aA hl165_1
          clear hi165_1 hl165_1
          replace p165 := eq_true p165
          replace q165 := eq_true q165
          go_wp2_with (first | ((with_reducible refine gate_dst (N := 6) rfl ?_); (try (refine gate_guard (by rfl) ?_; dsimp only)); refine box_event ?hg (N := 6) ?hd (cs := #[.slice none 0 0, .slice none 0 0]) (t := 46) ?hr ?_; (case hd => rfl); (case hg => rfl); (case hr => first | (go_simp; done) | (go_simp; rfl)); intro gb166 hg w46 hbox hb; have n0_ := aA (bB BK156.out hb); have n1_ := aA (below_step (mD1 GE156.out) hb); have n2_ := aA (hbox); have n3_ := aA ((bZ hg (mD1 GE156.out))); have n4_ := aA ((bZ hg (mD1 GE156.out))); have n5_ := aA ((bL hg BK156.out)); have n6_ := aA ((bG hg BK156.out)); clear BK156 HB; have BK156 := n0_; have HB := n1_; have BK166 := n2_; have GW166 := n3_; have GE166 := n4_; have NB156_166 := n5_; have NB166_156 := n6_; clear n0_ n1_ n2_ n3_ n4_ n5_ n6_ hb hbox hg; have hnb47 := NB166_156.out; have hnc47 := NB156_166.out; obtain ⟨hcz48_0, hcz48_1⟩ := bC2 BK166.out; obtain ⟨hfz48_0, hfz48_1⟩ := bF2 BK166.out; obtain ⟨hcz49_0, hcz49_1, hcz49_2, hcz49_3⟩ := bC4 BK156.out; obtain ⟨hfz49_0, hfz49_1, hfz49_2, hfz49_3⟩ := bF4 BK156.out) | ((with_reducible refine gate_callee (f := 28) rfl ?_); refine goesL_ (some 40) rfl rfl Tryz.func28 (by kernel_rfl) rfl #[.agg #[.slice A165_0 ((rd_T46 l0_1 x32_2).f0).length c165_0, .slice A165_1 ((rd_T46 l0_1 x32_2).f1).length c165_1], .int .i64 (l0_0.length : Int)] rfl mS ?_; (with_reducible refine (foghornref13_route.calls k2 _ _ ((rd_T46 l0_1 x32_2).f0) _ _ ((rd_T46 l0_1 x32_2).f1) (l0_0.length : Int) false _ ?side1 ?side2 ?side3 ?side4 A39.out).mono ?_); (case side1 => exact Kd.C_below HR165_0.out (mD2 GE156.out GE166.out)); (case side2 => exact HC165_0.out); (case side3 => exact Kd.C_below HR165_1.out (mD2 GE156.out GE166.out)); (case side4 => exact HC165_1.out); rintro e w50 ⟨rfl, hb⟩; refine ⟨_, rfl, ?_⟩; have n0_ := aA (blk_below (g := gb156) (o := .cells #[.slice A0_0 l0_0.length c0_0, .slice (some ad165) l0_1.length c0_1, .int .i64 a0_2, .int .i64 a0_3] 25 (0, 0)) (by (with_reducible repeat (first | refine blk_drewN ?_ _ | refine blk_drew ?_ | refine blk_alloc ?_ _)); refine blk_far ?_ NB156_166.out _; (with_reducible repeat (first | refine blk_drewN ?_ _ | refine blk_drew ?_ | refine blk_alloc ?_ _)); refine blk_far ?_ NB156_166.out _; (with_reducible repeat (first | refine blk_drewN ?_ _ | refine blk_drew ?_ | refine blk_alloc ?_ _)); exact BK156.out) hb); have n1_ := aA (blk_below (g := gb166) (o := .cells #[.slice A165_0 ((rd_T46 l0_1 x32_2).f0).length c165_0, .slice A165_1 ((rd_T46 l0_1 x32_2).f1).length c165_1] 46 (0, 0)) (by (with_reducible repeat (first | refine blk_drewN ?_ _ | refine blk_drew ?_ | refine blk_alloc ?_ _)); have h_ := BK166.out; exact pK 1 (pK 0 (h_))) hb); have n2_ := aA (below_step (mD2 GE156.out GE166.out) hb); clear BK156 BK166 HB; have BK156 := n0_; have BK166 := n1_; have HB := n2_; clear n0_ n1_ n2_; (try clear hb); (try clear hb2); (try clear hk); (try clear hi)))
          go_ret
          exact ⟨by first | rfl | (simp [errW_none, errW_some] <;> rfl) | (simp [*, errW_none, errW_some] <;> rfl), by repeat (first | (with_reducible first | exact HB.out | apply below_alloc | apply pw_below_drewN | apply below_drew1 | refine below_set ?_ GE156.out | refine below_set ?_ GE166.out) | exact HB.out)⟩
        ·rw [if_neg c38] at H
         exact absurd H (by simp)
       ·rw [if_neg c37] at H
        exact absurd H (by simp)
      ·rw [if_neg c36] at H
       have c36b0 : decide (x32_2 < (l0_1.length : Int)) = false := decide_eq_false c36
       clear c36
       by_cases c51 : (l0_0.length : Int) ≥ 1
       ·rw [if_pos c51] at H
        have c51b0 : decide (1 ≤ (l0_0.length : Int)) = true := decide_eq_true c51
        have c51b1 : decide (1 ≤ l0_0.length) = true := decide_eq_true (by omega)
        clear c51
        by_cases c52 : (l0_0.length : Int) ≤ 4
        ·rw [if_pos c52] at H
         have c52b0 : decide ((l0_0.length : Int) ≤ 4) = true := decide_eq_true c52
         have c52b1 : decide (l0_0.length ≤ 4) = true := decide_eq_true (by omega)
         clear c52
         by_cases c53 : (l0_1.length : Int) ≥ 1
         ·rw [if_pos c53] at H
          have c53b0 : decide (1 ≤ (l0_1.length : Int)) = true := decide_eq_true c53
          have c53b1 : decide (1 ≤ l0_1.length) = true := decide_eq_true (by omega)
          clear c53
          by_cases c54 : (l0_1.length : Int) ≤ 4
          ·rw [if_pos c54] at H
           have c54b0 : decide ((l0_1.length : Int) ≤ 4) = true := decide_eq_true c54
           have c54b1 : decide (l0_1.length ≤ 4) = true := decide_eq_true (by omega)
           clear c54
           replace H := Option.bind_eq_some_iff.mp H
           obtain ⟨t168, A550, H⟩ := H
           have A55 := aA A550
           clear A550
           by_cases c56 : t168 = true
           ·subst c56
            have H1 : ((foghornref13_often.f a0_3).bind fun t169 => (some t169)) = some r := by rw [if_pos rfl] at H; exact H
            clear H
            have H := H1
            clear H1
            replace H := Option.bind_eq_some_iff.mp H
            obtain ⟨t169, A570, H⟩ := H
            have A57 := aA A570
            clear A570
            obtain rfl := Option.some.inj H
            obtain ⟨hcz58_0, hcz58_1, hcz58_2, hcz58_3⟩ := bC4 BK156.out
            obtain ⟨hfz58_0, hfz58_1, hfz58_2, hfz58_3⟩ := bF4 BK156.out
            go_wp2_with (first | (go_at_call 29; (with_reducible refine (foghornref13_often.calls a0_2 true _ A55.out).mono ?_); rintro e w' ⟨rfl, ⟨nd, rfl⟩⟩) | (go_at_call 29; (with_reducible refine (foghornref13_often.calls a0_3 t169 _ A57.out).mono ?_); rintro e w' ⟨rfl, ⟨nd, rfl⟩⟩))
            go_ret
            exact ⟨by first | rfl | (simp [errW_none, errW_some] <;> rfl) | (simp [*, errW_none, errW_some] <;> rfl), by repeat (first | (with_reducible first | exact HB.out | apply below_alloc | apply pw_below_drewN | apply below_drew1 | refine below_set ?_ GE156.out) | exact HB.out)⟩
           ·replace c56 := Bool.eq_false_iff.mpr c56
            subst c56
            have H1 : (some false) = some r := by rw [if_neg (show ¬ (false = true) by decide)] at H; exact H
            clear H
            have H := H1
            clear H1
            obtain rfl := Option.some.inj H
            obtain ⟨hcz59_0, hcz59_1, hcz59_2, hcz59_3⟩ := bC4 BK156.out
            obtain ⟨hfz59_0, hfz59_1, hfz59_2, hfz59_3⟩ := bF4 BK156.out
            go_wp2_with (first | (go_at_call 29; (with_reducible refine (foghornref13_often.calls a0_2 false _ A55.out).mono ?_); rintro e w' ⟨rfl, ⟨nd, rfl⟩⟩))
            go_ret
            exact ⟨by first | rfl | (simp [errW_none, errW_some] <;> rfl) | (simp [*, errW_none, errW_some] <;> rfl), by repeat (first | (with_reducible first | exact HB.out | apply below_alloc | apply pw_below_drewN | apply below_drew1 | refine below_set ?_ GE156.out) | exact HB.out)⟩
          ·rw [if_neg c54] at H
           have c54b0 : decide ((l0_1.length : Int) ≤ 4) = false := decide_eq_false c54
           have c54b1 : decide (l0_1.length ≤ 4) = false := decide_eq_false (by omega)
           clear c54
           obtain rfl := Option.some.inj H
           obtain ⟨hcz60_0, hcz60_1, hcz60_2, hcz60_3⟩ := bC4 BK156.out
           obtain ⟨hfz60_0, hfz60_1, hfz60_2, hfz60_3⟩ := bF4 BK156.out
           go_wp2
           go_ret
           exact ⟨by first | rfl | (simp [errW_none, errW_some] <;> rfl) | (simp [*, errW_none, errW_some] <;> rfl), by repeat (first | (with_reducible first | exact HB.out | apply below_alloc | apply pw_below_drewN | apply below_drew1 | refine below_set ?_ GE156.out) | exact HB.out)⟩
         ·rw [if_neg c53] at H
          have c53b0 : decide (1 ≤ (l0_1.length : Int)) = false := decide_eq_false c53
          have c53b1 : decide (1 ≤ l0_1.length) = false := decide_eq_false (by omega)
          clear c53
          obtain rfl := Option.some.inj H
          obtain ⟨hcz61_0, hcz61_1, hcz61_2, hcz61_3⟩ := bC4 BK156.out
          obtain ⟨hfz61_0, hfz61_1, hfz61_2, hfz61_3⟩ := bF4 BK156.out
          go_wp2
          go_ret
          exact ⟨by first | rfl | (simp [errW_none, errW_some] <;> rfl) | (simp [*, errW_none, errW_some] <;> rfl), by repeat (first | (with_reducible first | exact HB.out | apply below_alloc | apply pw_below_drewN | apply below_drew1 | refine below_set ?_ GE156.out) | exact HB.out)⟩
        ·rw [if_neg c52] at H
         have c52b0 : decide ((l0_0.length : Int) ≤ 4) = false := decide_eq_false c52
         have c52b1 : decide (l0_0.length ≤ 4) = false := decide_eq_false (by omega)
         clear c52
         obtain rfl := Option.some.inj H
         obtain ⟨hcz62_0, hcz62_1, hcz62_2, hcz62_3⟩ := bC4 BK156.out
         obtain ⟨hfz62_0, hfz62_1, hfz62_2, hfz62_3⟩ := bF4 BK156.out
         go_wp2
         go_ret
         exact ⟨by first | rfl | (simp [errW_none, errW_some] <;> rfl) | (simp [*, errW_none, errW_some] <;> rfl), by repeat (first | (with_reducible first | exact HB.out | apply below_alloc | apply pw_below_drewN | apply below_drew1 | refine below_set ?_ GE156.out) | exact HB.out)⟩
       ·rw [if_neg c51] at H
        have c51b0 : decide (1 ≤ (l0_0.length : Int)) = false := decide_eq_false c51
        have c51b1 : decide (1 ≤ l0_0.length) = false := decide_eq_false (by omega)
        clear c51
        obtain rfl := Option.some.inj H
        obtain ⟨hcz63_0, hcz63_1, hcz63_2, hcz63_3⟩ := bC4 BK156.out
        obtain ⟨hfz63_0, hfz63_1, hfz63_2, hfz63_3⟩ := bF4 BK156.out
        go_wp2
        go_ret
        exact ⟨by first | rfl | (simp [errW_none, errW_some] <;> rfl) | (simp [*, errW_none, errW_some] <;> rfl), by repeat (first | (with_reducible first | exact HB.out | apply below_alloc | apply pw_below_drewN | apply below_drew1 | refine below_set ?_ GE156.out) | exact HB.out)⟩
end Go.Proofs.YtejdpjmfnpbadaaGreatDoorQ.P
namespace Go.Proofs.YtejdpjmfnpbadaaGreatDoorQ.P
open Go.RowKit Go.Proofs.YtejdpjmfnpbadaaGreatDoorW.PrintWords Go.Proofs.YtejdpjmfnpbadaaGreatDoorW.PrintLast Go.Proofs.YtejdpjmfnpbadaaGreatDoorW.PrintMore
attribute [local go_sem] max2_int min2_int max_two min_two max_three min_three max_four min_four
def foghornref24_Step.l0 : Nat → Int → List (S41) → Int → Int → Option (Int)
 | 0, _, _, _, _ => none
 | k + 1, x3, x7, x8, x9 => if x9 < x8 then (if 0 ≤ x9 then (if x9 < (x7.length : Int) then (foghornref24_Step.l0 k (mx (mx (mx x3 (wrap64 (((rd_T41 x7 x9).f1.f1) + ((rd_T41 x7 x9).f1.f2)))) ((rd_T41 x7 x9).f6)) ((rd_T41 x7 x9).f4)) x7 x8 (wrap64 (x9 + 1))) else (none)) else (none)) else (some x3)
def foghornref24_Step.f (k : Nat) (l0_0 : List (S41)) (l0_1 : List (S46)) (a0_2 : Int) (a0_3 : Int) : Option (Int) := foghornref24_Step.l0 k 0 l0_0 (l0_0.length : Int) 0
set_option maxHeartbeats 8000000 in
set_option maxRecDepth 100000 in
theorem foghornref24_Step.calls (k : Nat) (A0_0 : Option Addr) (c0_0 : Nat) (l0_0 : List (S41)) (A0_1 : Option Addr) (c0_1 : Nat) (l0_1 : List (S46)) (a0_2 : Int) (a0_3 : Int) (r : Int) (w : World) (hr0_0 : Kd.C k41 w A0_0 l0_0.length l0_0) (hc0_0 : l0_0.length ≤ c0_0) (hr0_1 : Kd.C k46 w A0_1 l0_1.length l0_1) (hc0_1 : l0_1.length ≤ c0_1) (h : foghornref24_Step.f k l0_0 l0_1 a0_2 a0_3 = some r) :
  Calls Tryz.prog 13 #[.agg #[.slice A0_0 l0_0.length c0_0, .slice A0_1 l0_1.length c0_1, .int .i64 a0_2, .int .i64 a0_3]] w fun e w' => e = .returned (.int .i64 r) ∧ Below w.heap.size w w' := by
 have hu25 := Tryz.underlying25
 have hu41 := Tryz.underlying41
 have HR0_0 := aA hr0_0
 have HC0_0 := aA hc0_0
 clear hr0_0 hc0_0
 have HR0_1 := aA hr0_1
 have HC0_1 := aA hc0_1
 clear hr0_1 hc0_1
 have HB := aA (Below.refl w.heap.size w)
 have H : (foghornref24_Step.l0 k 0 l0_0 (l0_0.length : Int) 0) = some r := h
 clear h
 have H' := aA H
 clear H
 go_enter Tryz.func13, Tryz.ntmps13
 go_wp2_with (first | ((with_reducible refine gate_dst (N := 1) rfl ?_); refine box_event ?hg (N := 1) ?hd (cs := #[.slice A0_0 l0_0.length c0_0, .slice A0_1 l0_1.length c0_1, .int .i64 a0_2, .int .i64 a0_3]) (t := 25) ?hr ?_; (case hd => rfl); (case hg => rfl); (case hr => first | (go_simp; done) | (go_simp; rfl)); intro gb187 hg w2 hbox hb; have n0_ := aA (below_step mB hb); have n1_ := aA (hbox); have n2_ := aA ((bZ hg mB)); have n3_ := aA ((bZ hg mB)); clear HB; have HB := n0_; have BK187 := n1_; have GW187 := n2_; have GE187 := n3_; clear n0_ n1_ n2_ n3_ hb hbox hg; obtain ⟨hcz3_0, hcz3_1, hcz3_2, hcz3_3⟩ := bC4 BK187.out; obtain ⟨hfz3_0, hfz3_1, hfz3_2, hfz3_3⟩ := bF4 BK187.out))
 go_loopg [3, 9] k (fun kq v3 v9 w' => ∃ (x3_1 : Int) (x9_1 : Int), v3 = .int .i64 x3_1 ∧ v9 = .int .i64 x9_1 ∧ Aside0 (foghornref24_Step.l0 kq x3_1 l0_0 (l0_0.length : Int) x9_1 = some r) ∧ Aside0 (kq ≤ k) ∧ Aside0 (w'.heap[gb187]? = some (.cells #[(.slice A0_0 l0_0.length c0_0), (.slice A0_1 l0_1.length c0_1), .int .i64 a0_2, .int .i64 a0_3] 25 (0, 0))) ∧ Aside0 (Below w.heap.size w w'))
 case atStart => exact ⟨(0), (0), (by first | rfl | (simp; done) | (simp [*]; done)), (by first | rfl | (simp; done) | (simp [*]; done)), H', ⟨Nat.le_refl _⟩, ⟨by (with_reducible repeat (first | refine blk_drewN ?_ _ | refine blk_drew ?_ | refine blk_alloc ?_ _)); exact BK187.out⟩, ⟨by repeat (first | (with_reducible first | exact HB.out | apply below_alloc | apply pw_below_drewN | apply below_drew1 | refine below_set ?_ GE187.out) | exact HB.out)⟩⟩
 case round =>
  clear H'
  try clear c1
  try clear p2
  try clear hcz3_0 hcz3_1 hcz3_2 hcz3_3
  try clear hfz3_0 hfz3_1 hfz3_2 hfz3_3
  obtain ⟨x3_1, x9_1, rfl, rfl, HA, HK1, BK187, HB⟩ := hrel
  cases gk with
  | zero => exact absurd HA.out (by simp [foghornref24_Step.l0])
  | succ k1 =>
   have H := HA.out
   clear HA
   simp only [foghornref24_Step.l0] at H
   by_cases c4 : x9_1 < (l0_0.length : Int)
   ·rw [if_pos c4] at H
    have c4b0 : decide (x9_1 < (l0_0.length : Int)) = true := decide_eq_true c4
    clear c4
    by_cases c5 : 0 ≤ x9_1
    ·rw [if_pos c5] at H
     have c5b0 : decide (0 ≤ x9_1) = true := decide_eq_true c5
     clear c5
     by_cases c6 : x9_1 < (l0_0.length : Int)
     ·rw [if_pos c6] at H
      have c6b0 : decide (x9_1 < (l0_0.length : Int)) = true := decide_eq_true c6
      clear c6
      obtain ⟨ji7, hji7⟩ : ∃ j_ : Int, (mx x3_1 (wrap64 (((rd_T41 l0_0 x9_1).f1.f1) + ((rd_T41 l0_0 x9_1).f1.f2)))) = j_ := ⟨_, rfl⟩
      replace H : (foghornref24_Step.l0 k1 (mx (mx (ji7) ((rd_T41 l0_0 x9_1).f6)) ((rd_T41 l0_0 x9_1).f4)) l0_0 (l0_0.length : Int) (wrap64 (x9_1 + 1))) = some r := by first | (rw [hji7] at H; exact H) | (simp only [hji7] at H ⊢; exact H)
      have hji7_ : (if x3_1 < (wrap64 (((rd_T41 l0_0 x9_1).f1.f1) + ((rd_T41 l0_0 x9_1).f1.f2))) then (wrap64 (((rd_T41 l0_0 x9_1).f1.f1) + ((rd_T41 l0_0 x9_1).f1.f2))) else x3_1) = ji7 := hji7
      obtain ⟨ji8, hji8⟩ : ∃ j_ : Int, (mx (ji7) ((rd_T41 l0_0 x9_1).f6)) = j_ := ⟨_, rfl⟩
      replace H : (foghornref24_Step.l0 k1 (mx (ji8) ((rd_T41 l0_0 x9_1).f4)) l0_0 (l0_0.length : Int) (wrap64 (x9_1 + 1))) = some r := by first | (rw [hji8] at H; exact H) | (simp only [hji8] at H ⊢; exact H)
      have hji8_ : (if (ji7) < ((rd_T41 l0_0 x9_1).f6) then ((rd_T41 l0_0 x9_1).f6) else (ji7)) = ji8 := hji8
      obtain ⟨ji9, hji9⟩ : ∃ j_ : Int, (mx (ji8) ((rd_T41 l0_0 x9_1).f4)) = j_ := ⟨_, rfl⟩
      replace H : (foghornref24_Step.l0 k1 ji9 l0_0 (l0_0.length : Int) (wrap64 (x9_1 + 1))) = some r := by first | (rw [hji9] at H; exact H) | (simp only [hji9] at H ⊢; exact H)
      have hji9_ : (if (ji8) < ((rd_T41 l0_0 x9_1).f4) then ((rd_T41 l0_0 x9_1).f4) else (ji8)) = ji9 := hji9
      have H' := aA H
      clear H
      have p188 : 0 ≤ (x9_1 : Int) := of_decide_eq_true (by first | (with_reducible assumption) | assumption)
      have q188 : x9_1 < (l0_0.length : Int) := of_decide_eq_true (by first | (with_reducible assumption) | assumption)
      obtain ⟨ad188, e188, hx188_0, hx188_1, hx188_2, hx188_3, hx188_4, hx188_5, hx188_6, hx188_7, hx188_8⟩ := at_T41 HR0_0.out x9_1 p188 q188
      cases e188
      replace hx188_0 := (HB.out.cell (World.block_lt_of_cell? w _ hx188_0)).trans hx188_0
      replace hx188_1 := (HB.out.cell (World.block_lt_of_cell? w _ hx188_1)).trans hx188_1
      replace hx188_2 := (HB.out.cell (World.block_lt_of_cell? w _ hx188_2)).trans hx188_2
      replace hx188_3 := (HB.out.cell (World.block_lt_of_cell? w _ hx188_3)).trans hx188_3
      replace hx188_4 := (HB.out.cell (World.block_lt_of_cell? w _ hx188_4)).trans hx188_4
      replace hx188_5 := (HB.out.cell (World.block_lt_of_cell? w _ hx188_5)).trans hx188_5
      replace hx188_6 := (HB.out.cell (World.block_lt_of_cell? w _ hx188_6)).trans hx188_6
      replace hx188_7 := (HB.out.cell (World.block_lt_of_cell? w _ hx188_7)).trans hx188_7
      replace hx188_8 := (HB.out.cell (World.block_lt_of_cell? w _ hx188_8)).trans hx188_8
      replace p188 := eq_true p188
      replace q188 := eq_true q188
      go_wp2_with (first | ((with_reducible refine gate_dst (N := 5) rfl ?_); refine box_event ?hg (N := 5) ?hd (cs := #[.string (⟨#[]⟩ : ByteArray), .int .i64 0, .int .i64 0, .int .i64 0, .int .i64 0, .int .i64 0, .int .i64 0, .int .i64 0, .int .i64 0]) (t := 41) ?hr ?_; (case hd => rfl); (case hg => rfl); (case hr => first | (go_simp; done) | (go_simp; rfl)); intro gb189 hg w10 hbox hb; have n0_ := aA (bB BK187.out hb); have n1_ := aA (below_step (mD1 GE187.out) hb); have n2_ := aA (hbox); have n3_ := aA ((bZ hg (mD1 GE187.out))); have n4_ := aA ((bZ hg (mD1 GE187.out))); have n5_ := aA ((bL hg BK187.out)); have n6_ := aA ((bG hg BK187.out)); clear BK187 HB; have BK187 := n0_; have HB := n1_; have BK189 := n2_; have GW189 := n3_; have GE189 := n4_; have NB187_189 := n5_; have NB189_187 := n6_; clear n0_ n1_ n2_ n3_ n4_ n5_ n6_ hb hbox hg; have hnb11 := NB189_187.out; have hnc11 := NB187_189.out; obtain ⟨hcz12_0, hcz12_1, hcz12_2, hcz12_3, hcz12_4, hcz12_5, hcz12_6, hcz12_7, hcz12_8⟩ := bC9 BK189.out; obtain ⟨hfz12_0, hfz12_1, hfz12_2, hfz12_3, hfz12_4, hfz12_5, hfz12_6, hfz12_7, hfz12_8⟩ := bF9 BK189.out))
      go_roundg k1
      case measure => have := HK1.out; omega
      case rel => exact ⟨(ji9), (wrap64 (x9_1 + 1)), (by first | rfl | (simp; done) | (simp only [← hji9] <;> (first | rfl | simp)) | (simp [*]; done)), (by first | rfl | (simp; done) | (simp [*]; done)), H', ⟨by have := HK1.out; omega⟩, ⟨by (with_reducible repeat (first | refine blk_drewN ?_ _ | refine blk_drew ?_ | refine blk_alloc ?_ _)); refine blk_far ?_ NB187_189.out _; (with_reducible repeat (first | refine blk_drewN ?_ _ | refine blk_drew ?_ | refine blk_alloc ?_ _)); refine blk_far ?_ NB187_189.out _; (with_reducible repeat (first | refine blk_drewN ?_ _ | refine blk_drew ?_ | refine blk_alloc ?_ _)); refine blk_far ?_ NB187_189.out _; (with_reducible repeat (first | refine blk_drewN ?_ _ | refine blk_drew ?_ | refine blk_alloc ?_ _)); refine blk_far ?_ NB187_189.out _; (with_reducible repeat (first | refine blk_drewN ?_ _ | refine blk_drew ?_ | refine blk_alloc ?_ _)); refine blk_far ?_ NB187_189.out _; (with_reducible repeat (first | refine blk_drewN ?_ _ | refine blk_drew ?_ | refine blk_alloc ?_ _)); refine blk_far ?_ NB187_189.out _; (with_reducible repeat (first | refine blk_drewN ?_ _ | refine blk_drew ?_ | refine blk_alloc ?_ _)); refine blk_far ?_ NB187_189.out _; (with_reducible repeat (first | refine blk_drewN ?_ _ | refine blk_drew ?_ | refine blk_alloc ?_ _)); refine blk_far ?_ NB187_189.out _; (with_reducible repeat (first | refine blk_drewN ?_ _ | refine blk_drew ?_ | refine blk_alloc ?_ _)); refine blk_far ?_ NB187_189.out _; (with_reducible repeat (first | refine blk_drewN ?_ _ | refine blk_drew ?_ | refine blk_alloc ?_ _)); exact BK187.out⟩, ⟨by repeat (first | (with_reducible first | exact HB.out | apply below_alloc | apply pw_below_drewN | apply below_drew1 | refine below_set ?_ GE187.out | refine below_set ?_ GE189.out) | exact HB.out)⟩⟩
     ·rw [if_neg c6] at H
      exact absurd H (by simp)
    ·rw [if_neg c5] at H
     exact absurd H (by simp)
   ·rw [if_neg c4] at H
    have c4b0 : decide (x9_1 < (l0_0.length : Int)) = false := decide_eq_false c4
    clear c4
    obtain rfl := Option.some.inj H
    go_wp2
    go_ret
    exact ⟨by first | rfl | (simp [errW_none, errW_some] <;> rfl) | (simp [*, errW_none, errW_some] <;> rfl), by repeat (first | (with_reducible first | exact HB.out | apply below_alloc | apply pw_below_drewN | apply below_drew1 | refine below_set ?_ GE187.out) | exact HB.out)⟩
end Go.Proofs.YtejdpjmfnpbadaaGreatDoorQ.P
namespace Go.Proofs.YtejdpjmfnpbadaaGreatDoorQ.P
open Go.RowKit Go.Proofs.YtejdpjmfnpbadaaGreatDoorW.PrintWords Go.Proofs.YtejdpjmfnpbadaaGreatDoorW.PrintLast Go.Proofs.YtejdpjmfnpbadaaGreatDoorW.PrintMore
attribute [local go_sem] max2_int min2_int max_two min_two max_three min_three max_four min_four
def foghornref05_Add.f (a0 : Int) (a1 : Int) : Option (Int) := some (mn (wrap64 (a0 + a1)) 1099511627776)
set_option maxHeartbeats 8000000 in
set_option maxRecDepth 100000 in
theorem foghornref05_Add.calls (a0 : Int) (a1 : Int) (r : Int) (w : World) (h : foghornref05_Add.f a0 a1 = some r) :
  Calls Tryz.prog 32 #[.int .i64 a0, .int .i64 a1] w fun e w' => e = .returned (.int .i64 r) ∧ Below w.heap.size w w' := by
 have HB := aA (Below.refl w.heap.size w)
 have H : (some (mn (wrap64 (a0 + a1)) 1099511627776)) = some r := h
 clear h
 obtain ⟨ji3, hji3⟩ : ∃ j_ : Int, (mn (wrap64 (a0 + a1)) 1099511627776) = j_ := ⟨_, rfl⟩
 replace H : (some ji3) = some r := by first | (rw [hji3] at H; exact H) | (simp only [hji3] at H ⊢; exact H)
 (try (have hji3h : ji3 ≤ 1099511627776 := by (rw [← hji3]; unfold mn; (repeat' split) <;> omega)))
 (try (have hji3g : ji3 ≤ 64 := by omega))
 have hji3_ : (if 1099511627776 < (wrap64 (a0 + a1)) then 1099511627776 else (wrap64 (a0 + a1))) = ji3 := hji3
 obtain rfl := Option.some.inj H
 go_enter Tryz.func32, Tryz.ntmps32
 go_wp2
 go_ret
 exact ⟨by first | rfl | (simp [errW_none, errW_some] <;> rfl) | (simp only [← hji3]; first | rfl | (simp [errW_none, errW_some] <;> rfl)) | (simp [*, errW_none, errW_some] <;> rfl), by repeat (first | (with_reducible first | exact HB.out | apply below_alloc | apply pw_below_drewN | apply below_drew1) | exact HB.out)⟩
end Go.Proofs.YtejdpjmfnpbadaaGreatDoorQ.P
namespace Go.Proofs.YtejdpjmfnpbadaaGreatDoorQ.P
open Go.RowKit Go.Proofs.YtejdpjmfnpbadaaGreatDoorW.PrintWords Go.Proofs.YtejdpjmfnpbadaaGreatDoorW.PrintLast Go.Proofs.YtejdpjmfnpbadaaGreatDoorW.PrintMore
attribute [local go_sem] max2_int min2_int max_two min_two max_three min_three max_four min_four
def foghornref05_Times.f (a0 : Int) (a1 : Int) : Option (Int) := if a0 > 0 then (if a0 = 0 then (none) else (if a1 > (wrap64 ((1099511627776 : Int) / a0)) then (some 1099511627776) else (some (wrap64 (a0 * a1))))) else (some (wrap64 (a0 * a1)))
set_option maxHeartbeats 8000000 in
set_option maxRecDepth 100000 in
theorem foghornref05_Times.calls (a0 : Int) (a1 : Int) (r : Int) (w : World) (h : foghornref05_Times.f a0 a1 = some r) :
  Calls Tryz.prog 66 #[.int .i64 a0, .int .i64 a1] w fun e w' => e = .returned (.int .i64 r) ∧ Drawn0 w w' := by
 have H : (if a0 > 0 then (if a0 = 0 then (none) else (if a1 > (wrap64 ((1099511627776 : Int) / a0)) then (some 1099511627776) else (some (wrap64 (a0 * a1))))) else (some (wrap64 (a0 * a1)))) = some r := h
 clear h
 by_cases c3 : a0 > 0
 ·rw [if_pos c3] at H
  have c3b0 : decide (0 < a0) = true := decide_eq_true c3
  clear c3
  by_cases c4 : a0 = 0
  ·rw [if_pos c4] at H
   exact absurd H (by simp)
  ·rw [if_neg c4] at H
   have c4b0 : (a0 == 0) = false := beq_eq_false_iff_ne.mpr c4
   have c4b1 : (a0 != 0) = true := bne_iff_ne.mpr c4
   by_cases c5 : a1 > (wrap64 ((1099511627776 : Int) / a0))
   ·rw [if_pos c5] at H
    have c5b0 : decide ((wrap64 ((1099511627776 : Int) / a0)) < a1) = true := decide_eq_true c5
    have c5z : ¬ a1 ≤ wrap64 (Int.tdiv 1099511627776 a0) := by rw [Int.tdiv_eq_ediv_of_nonneg (by omega)]; exact Int.not_le.2 c5
    clear c5
    obtain rfl := Option.some.inj H
    go_enter Tryz.func66, Tryz.ntmps66
    go_wp2
    go_ret
    exact ⟨by first | rfl | (simp; done) | (simp [*]; done), by repeat (first | exact Drawn0.refl _ | apply Drawn0.step)⟩
   ·rw [if_neg c5] at H
    have c5b0 : decide ((wrap64 ((1099511627776 : Int) / a0)) < a1) = false := decide_eq_false c5
    have c5z : a1 ≤ wrap64 (Int.tdiv 1099511627776 a0) := by rw [Int.tdiv_eq_ediv_of_nonneg (by omega)]; exact Int.not_lt.1 c5
    clear c5
    obtain rfl := Option.some.inj H
    go_enter Tryz.func66, Tryz.ntmps66
    go_wp2
    go_ret
    exact ⟨by first | rfl | (simp; done) | (simp [*]; done), by repeat (first | exact Drawn0.refl _ | apply Drawn0.step)⟩
 ·rw [if_neg c3] at H
  have c3b0 : decide (0 < a0) = false := decide_eq_false c3
  clear c3
  obtain rfl := Option.some.inj H
  go_enter Tryz.func66, Tryz.ntmps66
  go_wp2
  go_ret
  exact ⟨by first | rfl | (simp; done) | (simp [*]; done), by repeat (first | exact Drawn0.refl _ | apply Drawn0.step)⟩
end Go.Proofs.YtejdpjmfnpbadaaGreatDoorQ.P
namespace Go.Proofs.YtejdpjmfnpbadaaGreatDoorQ.P
open Go.RowKit Go.Proofs.YtejdpjmfnpbadaaGreatDoorW.PrintWords Go.Proofs.YtejdpjmfnpbadaaGreatDoorW.PrintLast Go.Proofs.YtejdpjmfnpbadaaGreatDoorW.PrintMore
attribute [local go_sem] max2_int min2_int max_two min_two max_three min_three max_four min_four
def foghornref24_more.f (a0 : Int) (a1 : Int) : Option (Int) := (foghornref05_Times.f (mn a0 1099511627776) a1).bind fun t190 => ((foghornref05_Add.f 1 t190).bind fun t191 => (some t191))
set_option maxHeartbeats 8000000 in
set_option maxRecDepth 100000 in
theorem foghornref24_more.calls (a0 : Int) (a1 : Int) (r : Int) (w : World) (h : foghornref24_more.f a0 a1 = some r) :
  Calls Tryz.prog 31 #[.int .i64 a0, .int .i64 a1] w fun e w' => e = .returned (.int .i64 r) ∧ Below w.heap.size w w' := by
 have HB := aA (Below.refl w.heap.size w)
 have H : ((foghornref05_Times.f (mn a0 1099511627776) a1).bind fun t190 => ((foghornref05_Add.f 1 t190).bind fun t191 => (some t191))) = some r := h
 clear h
 obtain ⟨ji3, hji3⟩ : ∃ j_ : Int, (mn a0 1099511627776) = j_ := ⟨_, rfl⟩
 replace H : ((foghornref05_Times.f (ji3) a1).bind fun t190 => ((foghornref05_Add.f 1 t190).bind fun t191 => (some t191))) = some r := by first | (rw [hji3] at H; exact H) | (simp only [hji3] at H ⊢; exact H)
 (try (have hji3h : ji3 ≤ 1099511627776 := by (rw [← hji3]; unfold mn; (repeat' split) <;> omega)))
 (try (have hji3g : ji3 ≤ 64 := by omega))
 have hji3_ : (if 1099511627776 < a0 then 1099511627776 else a0) = ji3 := hji3
 replace H := Option.bind_eq_some_iff.mp H
 obtain ⟨t190, A40, H⟩ := H
 have A4 := aA A40
 clear A40
 replace H := Option.bind_eq_some_iff.mp H
 obtain ⟨t191, A50, H⟩ := H
 have A5 := aA A50
 clear A50
 obtain rfl := Option.some.inj H
 go_enter Tryz.func31, Tryz.ntmps31
 go_wp2_with (first | ((with_reducible refine gate_callee (f := 66) rfl ?_); refine goesL_ (some 8) rfl rfl Tryz.func66 (by kernel_rfl) rfl #[.int .i64 ji3, .int .i64 a1] rfl (by (try simp only [List.map_toArray, List.map_cons, List.map_nil]); first | done | (simp only [hji3]; rfl) | rfl | (simp only [List.length_drop, List.length_take]; rfl)) ?_; (with_reducible refine (foghornref05_Times.calls ji3 a1 t190 _ A4.out).mono ?_); rintro e w' ⟨rfl, ⟨nd, rfl⟩⟩; refine ⟨_, rfl, ?_⟩) | ((with_reducible refine gate_callee (f := 32) rfl ?_); refine goesL_ (some 9) rfl rfl Tryz.func32 (by kernel_rfl) rfl #[.int .i64 1, .int .i64 t190] rfl mS ?_; (with_reducible refine (foghornref05_Add.calls 1 t190 t191 _ A5.out).mono ?_); rintro e w6 ⟨rfl, hb⟩; refine ⟨_, rfl, ?_⟩; have n0_ := aA (below_step mB hb); clear HB; have HB := n0_; clear n0_; (try clear hb); (try clear hb2); (try clear hk); (try clear hi)))
 go_ret
 exact ⟨by first | rfl | (simp [errW_none, errW_some] <;> rfl) | (simp only [← hji3]; first | rfl | (simp [errW_none, errW_some] <;> rfl)) | (simp [*, errW_none, errW_some] <;> rfl), by repeat (first | (with_reducible first | exact HB.out | apply below_alloc | apply pw_below_drewN | apply below_drew1) | exact HB.out)⟩
end Go.Proofs.YtejdpjmfnpbadaaGreatDoorQ.P
namespace Go.Proofs.YtejdpjmfnpbadaaGreatDoorQ.P
open Go.RowKit Go.Proofs.YtejdpjmfnpbadaaGreatDoorW.PrintWords Go.Proofs.YtejdpjmfnpbadaaGreatDoorW.PrintLast Go.Proofs.YtejdpjmfnpbadaaGreatDoorW.PrintMore
attribute [local go_sem] max2_int min2_int max_two min_two max_three min_three max_four min_four
def foghornref24_Alone.f (k : Nat) (l0_0 : List (S41)) (l0_1 : List (S46)) (a0_2 : Int) (a0_3 : Int) (a1 : Int) : Option (Int) := (foghornref24_Step.f k l0_0 l0_1 a0_2 a0_3).bind fun t193 => ((foghornref24_more.f (wrap64 (a1 - 1)) t193).bind fun t194 => (some t194))
set_option maxHeartbeats 8000000 in
set_option maxRecDepth 100000 in
theorem foghornref24_Alone.calls (k : Nat) (A0_0 : Option Addr) (c0_0 : Nat) (l0_0 : List (S41)) (A0_1 : Option Addr) (c0_1 : Nat) (l0_1 : List (S46)) (a0_2 : Int) (a0_3 : Int) (a1 : Int) (r : Int) (w : World) (hr0_0 : Kd.C k41 w A0_0 l0_0.length l0_0) (hc0_0 : l0_0.length ≤ c0_0) (hr0_1 : Kd.C k46 w A0_1 l0_1.length l0_1) (hc0_1 : l0_1.length ≤ c0_1) (h : foghornref24_Alone.f k l0_0 l0_1 a0_2 a0_3 a1 = some r) :
  Calls Tryz.prog 14 #[.agg #[.slice A0_0 l0_0.length c0_0, .slice A0_1 l0_1.length c0_1, .int .i64 a0_2, .int .i64 a0_3], .int .i64 a1] w fun e w' => e = .returned (.int .i64 r) ∧ Below w.heap.size w w' := by
 have hu25 := Tryz.underlying25
 have HR0_0 := aA hr0_0
 have HC0_0 := aA hc0_0
 clear hr0_0 hc0_0
 have HR0_1 := aA hr0_1
 have HC0_1 := aA hc0_1
 clear hr0_1 hc0_1
 have HB := aA (Below.refl w.heap.size w)
 have H : ((foghornref24_Step.f k l0_0 l0_1 a0_2 a0_3).bind fun t193 => ((foghornref24_more.f (wrap64 (a1 - 1)) t193).bind fun t194 => (some t194))) = some r := h
 clear h
 replace H := Option.bind_eq_some_iff.mp H
 obtain ⟨t193, A30, H⟩ := H
 have A3 := aA A30
 clear A30
 replace H := Option.bind_eq_some_iff.mp H
 obtain ⟨t194, A40, H⟩ := H
 have A4 := aA A40
 clear A40
 obtain rfl := Option.some.inj H
 go_enter Tryz.func14, Tryz.ntmps14
 go_wp2_with (first | ((with_reducible refine gate_dst (N := 2) rfl ?_); refine box_event ?hg (N := 2) ?hd (cs := #[.slice A0_0 l0_0.length c0_0, .slice A0_1 l0_1.length c0_1, .int .i64 a0_2, .int .i64 a0_3]) (t := 25) ?hr ?_; (case hd => rfl); (case hg => rfl); (case hr => first | (go_simp; done) | (go_simp; rfl)); intro gb192 hg w5 hbox hb; have n0_ := aA (below_step mB hb); have n1_ := aA (hbox); have n2_ := aA ((bZ hg mB)); have n3_ := aA ((bZ hg mB)); clear HB; have HB := n0_; have BK192 := n1_; have GW192 := n2_; have GE192 := n3_; clear n0_ n1_ n2_ n3_ hb hbox hg; obtain ⟨hcz6_0, hcz6_1, hcz6_2, hcz6_3⟩ := bC4 BK192.out; obtain ⟨hfz6_0, hfz6_1, hfz6_2, hfz6_3⟩ := bF4 BK192.out) | ((with_reducible refine gate_callee (f := 13) rfl ?_); refine goesL_ (some 8) rfl rfl Tryz.func13 (by kernel_rfl) rfl #[.agg #[.slice A0_0 l0_0.length c0_0, .slice A0_1 l0_1.length c0_1, .int .i64 a0_2, .int .i64 a0_3]] rfl mS ?_; (with_reducible refine (foghornref24_Step.calls k _ _ l0_0 _ _ l0_1 a0_2 a0_3 t193 _ ?side1 ?side2 ?side3 ?side4 A3.out).mono ?_); (case side1 => exact mC ((Kd.C_below HR0_0.out HB.out))); (case side2 => exact HC0_0.out); (case side3 => exact mC ((Kd.C_below HR0_1.out HB.out))); (case side4 => exact HC0_1.out); rintro e w7 ⟨rfl, hb⟩; refine ⟨_, rfl, ?_⟩; have n0_ := aA (bB BK192.out hb); have n1_ := aA (below_step (mD1 GE192.out) hb); clear BK192 HB; have BK192 := n0_; have HB := n1_; clear n0_ n1_; (try clear hb); (try clear hb2); (try clear hk); (try clear hi)) | ((with_reducible refine gate_callee (f := 31) rfl ?_); refine goesL_ (some 9) rfl rfl Tryz.func31 (by kernel_rfl) rfl #[.int .i64 (wrap64 (a1 - 1)), .int .i64 t193] rfl mS ?_; (with_reducible refine (foghornref24_more.calls (wrap64 (a1 - 1)) t193 t194 _ A4.out).mono ?_); rintro e w8 ⟨rfl, hb⟩; refine ⟨_, rfl, ?_⟩; have n0_ := aA (bB BK192.out hb); have n1_ := aA (below_step (mD1 GE192.out) hb); clear BK192 HB; have BK192 := n0_; have HB := n1_; clear n0_ n1_; (try clear hb); (try clear hb2); (try clear hk); (try clear hi)))
 go_ret
 exact ⟨by first | rfl | (simp [errW_none, errW_some] <;> rfl) | (simp [*, errW_none, errW_some] <;> rfl), by repeat (first | (with_reducible first | exact HB.out | apply below_alloc | apply pw_below_drewN | apply below_drew1 | refine below_set ?_ GE192.out) | exact HB.out)⟩
end Go.Proofs.YtejdpjmfnpbadaaGreatDoorQ.P
namespace Go.Proofs.YtejdpjmfnpbadaaGreatDoorQ.P
open Go.RowKit Go.Proofs.YtejdpjmfnpbadaaGreatDoorW.PrintWords Go.Proofs.YtejdpjmfnpbadaaGreatDoorW.PrintLast Go.Proofs.YtejdpjmfnpbadaaGreatDoorW.PrintMore
attribute [local go_sem] max2_int min2_int max_two min_two max_three min_three max_four min_four
def foghornref24_Many.f (l0_0 : List (S41)) (l0_1 : List (S46)) (a0_2 : Int) (a0_3 : Int) (a1 : Int) (a2 : Int) : Option (Int) := if 0 ≤ a1 then (if a1 < (l0_0.length : Int) then ((foghornref24_more.f (wrap64 (a2 - 1)) ((rd_T41 l0_0 a1).f6)).bind fun t197 => (some t197)) else (none)) else (none)
set_option maxHeartbeats 8000000 in
set_option maxRecDepth 100000 in
theorem foghornref24_Many.calls (A0_0 : Option Addr) (c0_0 : Nat) (l0_0 : List (S41)) (A0_1 : Option Addr) (c0_1 : Nat) (l0_1 : List (S46)) (a0_2 : Int) (a0_3 : Int) (a1 : Int) (a2 : Int) (r : Int) (w : World) (hr0_0 : Kd.C k41 w A0_0 l0_0.length l0_0) (hc0_0 : l0_0.length ≤ c0_0) (hr0_1 : Kd.C k46 w A0_1 l0_1.length l0_1) (hc0_1 : l0_1.length ≤ c0_1) (h : foghornref24_Many.f l0_0 l0_1 a0_2 a0_3 a1 a2 = some r) :
  Calls Tryz.prog 15 #[.agg #[.slice A0_0 l0_0.length c0_0, .slice A0_1 l0_1.length c0_1, .int .i64 a0_2, .int .i64 a0_3], .int .i64 a1, .int .i64 a2] w fun e w' => e = .returned (.int .i64 r) ∧ Below w.heap.size w w' := by
 have hu25 := Tryz.underlying25
 have HR0_0 := aA hr0_0
 have HC0_0 := aA hc0_0
 clear hr0_0 hc0_0
 have HR0_1 := aA hr0_1
 have HC0_1 := aA hc0_1
 clear hr0_1 hc0_1
 have HB := aA (Below.refl w.heap.size w)
 have H : (if 0 ≤ a1 then (if a1 < (l0_0.length : Int) then ((foghornref24_more.f (wrap64 (a2 - 1)) ((rd_T41 l0_0 a1).f6)).bind fun t197 => (some t197)) else (none)) else (none)) = some r := h
 clear h
 by_cases c4 : 0 ≤ a1
 ·rw [if_pos c4] at H
  have c4b0 : decide (0 ≤ a1) = true := decide_eq_true c4
  clear c4
  by_cases c5 : a1 < (l0_0.length : Int)
  ·rw [if_pos c5] at H
   have c5b0 : decide (a1 < (l0_0.length : Int)) = true := decide_eq_true c5
   clear c5
   replace H := Option.bind_eq_some_iff.mp H
   obtain ⟨t197, A60, H⟩ := H
   have A6 := aA A60
   clear A60
   obtain rfl := Option.some.inj H
   go_enter Tryz.func15, Tryz.ntmps15
   go_wp2_with (first | ((with_reducible refine gate_dst (N := 3) rfl ?_); refine box_event ?hg (N := 3) ?hd (cs := #[.slice A0_0 l0_0.length c0_0, .slice A0_1 l0_1.length c0_1, .int .i64 a0_2, .int .i64 a0_3]) (t := 25) ?hr ?_; (case hd => rfl); (case hg => rfl); (case hr => first | (go_simp; done) | (go_simp; rfl)); intro gb195 hg w7 hbox hb; have n0_ := aA (below_step mB hb); have n1_ := aA (hbox); have n2_ := aA ((bZ hg mB)); have n3_ := aA ((bZ hg mB)); clear HB; have HB := n0_; have BK195 := n1_; have GW195 := n2_; have GE195 := n3_; clear n0_ n1_ n2_ n3_ hb hbox hg; obtain ⟨hcz8_0, hcz8_1, hcz8_2, hcz8_3⟩ := bC4 BK195.out; obtain ⟨hfz8_0, hfz8_1, hfz8_2, hfz8_3⟩ := bF4 BK195.out; have p196 : 0 ≤ (a1 : Int) := of_decide_eq_true (by first | (with_reducible assumption) | assumption); have q196 : a1 < (l0_0.length : Int) := of_decide_eq_true (by first | (with_reducible assumption) | assumption); obtain ⟨ad196, e196, hx196_0, hx196_1, hx196_2, hx196_3, hx196_4, hx196_5, hx196_6, hx196_7, hx196_8⟩ := at_T41 HR0_0.out a1 p196 q196; cases e196; replace hx196_0 := (HB.out.cell (World.block_lt_of_cell? w _ hx196_0)).trans hx196_0; replace hx196_1 := (HB.out.cell (World.block_lt_of_cell? w _ hx196_1)).trans hx196_1; replace hx196_2 := (HB.out.cell (World.block_lt_of_cell? w _ hx196_2)).trans hx196_2; replace hx196_3 := (HB.out.cell (World.block_lt_of_cell? w _ hx196_3)).trans hx196_3; replace hx196_4 := (HB.out.cell (World.block_lt_of_cell? w _ hx196_4)).trans hx196_4; replace hx196_5 := (HB.out.cell (World.block_lt_of_cell? w _ hx196_5)).trans hx196_5; replace hx196_6 := (HB.out.cell (World.block_lt_of_cell? w _ hx196_6)).trans hx196_6; replace hx196_7 := (HB.out.cell (World.block_lt_of_cell? w _ hx196_7)).trans hx196_7; replace hx196_8 := (HB.out.cell (World.block_lt_of_cell? w _ hx196_8)).trans hx196_8; replace p196 := eq_true p196; replace q196 := eq_true q196) | ((with_reducible refine gate_callee (f := 31) rfl ?_); refine goesL_ (some 15) rfl rfl Tryz.func31 (by kernel_rfl) rfl #[.int .i64 (wrap64 (a2 - 1)), .int .i64 ((rd_T41 l0_0 a1).f6)] rfl mS ?_; (with_reducible refine (foghornref24_more.calls (wrap64 (a2 - 1)) ((rd_T41 l0_0 a1).f6) t197 _ A6.out).mono ?_); rintro e w9 ⟨rfl, hb⟩; refine ⟨_, rfl, ?_⟩; have n0_ := aA (bB BK195.out hb); have n1_ := aA (below_step (mD1 GE195.out) hb); clear BK195 HB; have BK195 := n0_; have HB := n1_; clear n0_ n1_; (try clear hb); (try clear hb2); (try clear hk); (try clear hi)))
   go_ret
   exact ⟨by first | rfl | (simp [errW_none, errW_some] <;> rfl) | (simp [*, errW_none, errW_some] <;> rfl), by repeat (first | (with_reducible first | exact HB.out | apply below_alloc | apply pw_below_drewN | apply below_drew1 | refine below_set ?_ GE195.out) | exact HB.out)⟩
  ·rw [if_neg c5] at H
   exact absurd H (by simp)
 ·rw [if_neg c4] at H
  exact absurd H (by simp)
end Go.Proofs.YtejdpjmfnpbadaaGreatDoorQ.P
namespace Go.Proofs.YtejdpjmfnpbadaaGreatDoorQ.P
open Go.RowKit Go.Proofs.YtejdpjmfnpbadaaGreatDoorW.PrintWords Go.Proofs.YtejdpjmfnpbadaaGreatDoorW.PrintLast Go.Proofs.YtejdpjmfnpbadaaGreatDoorW.PrintMore
attribute [local go_sem] max2_int min2_int max_two min_two max_three min_three max_four min_four
def foghornref24_Life.f (l0_0 : List (S41)) (l0_1 : List (S46)) (a0_2 : Int) (a0_3 : Int) (a1 : Int) : Option (Int) := (foghornref05_Add.f a0_3 (mn a1 1099511627776)).bind fun t199 => (some t199)
set_option maxHeartbeats 8000000 in
set_option maxRecDepth 100000 in
theorem foghornref24_Life.calls (A0_0 : Option Addr) (c0_0 : Nat) (l0_0 : List (S41)) (A0_1 : Option Addr) (c0_1 : Nat) (l0_1 : List (S46)) (a0_2 : Int) (a0_3 : Int) (a1 : Int) (r : Int) (w : World) (hr0_0 : Kd.C k41 w A0_0 l0_0.length l0_0) (hc0_0 : l0_0.length ≤ c0_0) (hr0_1 : Kd.C k46 w A0_1 l0_1.length l0_1) (hc0_1 : l0_1.length ≤ c0_1) (h : foghornref24_Life.f l0_0 l0_1 a0_2 a0_3 a1 = some r) :
  Calls Tryz.prog 16 #[.agg #[.slice A0_0 l0_0.length c0_0, .slice A0_1 l0_1.length c0_1, .int .i64 a0_2, .int .i64 a0_3], .int .i64 a1] w fun e w' => e = .returned (.int .i64 r) ∧ Below w.heap.size w w' := by
 have hu25 := Tryz.underlying25
 have HR0_0 := aA hr0_0
 have HC0_0 := aA hc0_0
 clear hr0_0 hc0_0
 have HR0_1 := aA hr0_1
 have HC0_1 := aA hc0_1
 clear hr0_1 hc0_1
 have HB := aA (Below.refl w.heap.size w)
 have H : ((foghornref05_Add.f a0_3 (mn a1 1099511627776)).bind fun t199 => (some t199)) = some r := h
 clear h
 obtain ⟨ji3, hji3⟩ : ∃ j_ : Int, (mn a1 1099511627776) = j_ := ⟨_, rfl⟩
 replace H : ((foghornref05_Add.f a0_3 (ji3)).bind fun t199 => (some t199)) = some r := by first | (rw [hji3] at H; exact H) | (simp only [hji3] at H ⊢; exact H)
 (try (have hji3h : ji3 ≤ 1099511627776 := by (rw [← hji3]; unfold mn; (repeat' split) <;> omega)))
 (try (have hji3g : ji3 ≤ 64 := by omega))
 have hji3_ : (if 1099511627776 < a1 then 1099511627776 else a1) = ji3 := hji3
 replace H := Option.bind_eq_some_iff.mp H
 obtain ⟨t199, A40, H⟩ := H
 have A4 := aA A40
 clear A40
 obtain rfl := Option.some.inj H
 go_enter Tryz.func16, Tryz.ntmps16
 go_wp2_with (first | ((with_reducible refine gate_dst (N := 2) rfl ?_); refine box_event ?hg (N := 2) ?hd (cs := #[.slice A0_0 l0_0.length c0_0, .slice A0_1 l0_1.length c0_1, .int .i64 a0_2, .int .i64 a0_3]) (t := 25) ?hr ?_; (case hd => rfl); (case hg => rfl); (case hr => first | (go_simp; done) | (go_simp; rfl)); intro gb198 hg w5 hbox hb; have n0_ := aA (below_step mB hb); have n1_ := aA (hbox); have n2_ := aA ((bZ hg mB)); have n3_ := aA ((bZ hg mB)); clear HB; have HB := n0_; have BK198 := n1_; have GW198 := n2_; have GE198 := n3_; clear n0_ n1_ n2_ n3_ hb hbox hg; obtain ⟨hcz6_0, hcz6_1, hcz6_2, hcz6_3⟩ := bC4 BK198.out; obtain ⟨hfz6_0, hfz6_1, hfz6_2, hfz6_3⟩ := bF4 BK198.out) | ((with_reducible refine gate_callee (f := 32) rfl ?_); refine goesL_ (some 9) rfl rfl Tryz.func32 (by kernel_rfl) rfl #[.int .i64 a0_3, .int .i64 ji3] rfl (by (try simp only [List.map_toArray, List.map_cons, List.map_nil]); first | done | (simp only [hji3]; rfl) | rfl | (simp only [List.length_drop, List.length_take]; rfl)) ?_; (with_reducible refine (foghornref05_Add.calls a0_3 ji3 t199 _ A4.out).mono ?_); rintro e w7 ⟨rfl, hb⟩; refine ⟨_, rfl, ?_⟩; have n0_ := aA (bB BK198.out hb); have n1_ := aA (below_step (mD1 GE198.out) hb); clear BK198 HB; have BK198 := n0_; have HB := n1_; clear n0_ n1_; (try clear hb); (try clear hb2); (try clear hk); (try clear hi)))
 go_ret
 exact ⟨by first | rfl | (simp [errW_none, errW_some] <;> rfl) | (simp only [← hji3]; first | rfl | (simp [errW_none, errW_some] <;> rfl)) | (simp [*, errW_none, errW_some] <;> rfl), by repeat (first | (with_reducible first | exact HB.out | apply below_alloc | apply pw_below_drewN | apply below_drew1 | refine below_set ?_ GE198.out) | exact HB.out)⟩
end Go.Proofs.YtejdpjmfnpbadaaGreatDoorQ.P
