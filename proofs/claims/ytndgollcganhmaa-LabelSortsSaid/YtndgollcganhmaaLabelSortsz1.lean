/- Part 1 of a proof: contracts and plain laws of what the statement reaches. No condition. -/
import Derived.Test.YtndgollcganhmaaProg
import Derived.Below
import Derived.Deep.Draws
import Derived.Deep.AppendLies
import Derived.Maps.AppendAt
import Derived.OwnWalk
import Derived.Laws.BytesArg
import Derived.Laws.MakeOwn
import Derived.Laws.OwnMore
import Derived.Deep.OwnRows
import Derived.Tactics
import Derived.Lib.ConvBytes
import Derived.Laws.Slices
import Derived.WalkKit
import Derived.KernelRfl
import Derived.RowKit3
import Derived.Deep.LoopGhost
import Derived.Deep.QuietTactic
import Derived.BigQuiet
import Derived.WideLaws
import Derived.Deep.DeepCutAuto
import Derived.Deep.CutBlock
import Derived.Deep.RegionHeld3
import Derived.Laws.Rows
import Derived.Lib.AppendStr
import Derived.ArgAppend
import Derived.Laws.IdiomCopy
import Derived.OrdersHeld
import Derived.Laws.BitsLemmas
import Derived.RowKit
import Derived.Test.YtndgollcganhmaaWWords
import Derived.Test.YtndgollcganhmaaWLast
import Derived.Test.YtndgollcganhmaaWTab
import Derived.Test.YtndgollcganhmaaWFour
import Derived.Test.YtndgollcganhmaaWQPut
import Derived.Test.YtndgollcganhmaaWApart
import Derived.Test.YtndgollcganhmaaWArr
import Derived.Test.YtndgollcganhmaaWZeros
import Derived.Test.YtndgollcganhmaaWFoot
import Derived.Test.YtndgollcganhmaaWKept
import Derived.Test.YtndgollcganhmaaWShare
import Derived.Test.YtndgollcganhmaaWN
import Derived.Test.YtndgollcganhmaaWFootNe
import Derived.Test.YtndgollcganhmaaWAt
import Derived.Test.YtndgollcganhmaaWEqStruct
import Derived.Test.YtndgollcganhmaaWRepsOne
import Derived.Test.YtndgollcganhmaaWInv
import Derived.Test.YtndgollcganhmaaWInvWords
import Derived.Test.YtndgollcganhmaaWGuard
import Derived.Test.YtndgollcganhmaaWNEv
import Derived.Test.YtndgollcganhmaaWMore
import Derived.Lib.Hide
import Derived.Lib.Strings
import Derived.ProofKit
import Derived.OpenShut
import Derived.SliceStrings
import Derived.Shelf.SlSortCmp.SmallK
import Derived.Test.YtndgollcganhmaaChecked
import Derived.LoopTactic
import Derived.Outline
import Derived.Laws.RangeAny
import Derived.Shelf.Abstract
import Derived.WalkLawsBesides
import Derived.WalkSpells
import Derived.Shelf.Strings.Builder1
import Derived.Shelf.Strings.Builder2
import Derived.Shelf.Small.Bits
import Derived.Shelf.Strings.BuilderF
import Derived.Shelf.Strings.BuilderK
import Derived.Shelf.Strings.Builder2Cap
import Derived.Shelf.Strconv.Itoa0
import Derived.Shelf.Strings.Prefix
import Derived.Shelf.Bits.Mul64
import Derived.Shelf.Strings.Repeat
import Derived.Shelf.Strings.BuilderCap
import Derived.Laws.EntriesVeiled
import Derived.Shelf.SlGeneric
import Derived.Shelf.SlicesE.Clone
import Derived.Ground.SlsfProg
import Derived.Ground.SlgnProg
import Derived.Ground.NamesProg
set_option linter.unusedVariables false
set_option linter.unusedSimpArgs false
/- Printed by the kit's printer, with my stubs, for this claim. -/
namespace Go.Proofs.YtndgollcganhmaaQ.P
open Go.RowKit Go.Proofs.YtndgollcganhmaaW.PrintWords Go.Proofs.YtndgollcganhmaaW.PrintLast Go.Proofs.YtndgollcganhmaaW.PrintMore
attribute [local go_sem] max2_int min2_int max_two min_two max_three min_three max_four min_four   -- for this text's walks alone



def errW : Option Int → Value
  | none => .nilIface
  | some c => .iface 0 (.int .i64 c)
theorem errW_none : errW none = .nilIface := rfl
theorem errW_some (c : Int) : errW (some c) = .iface 0 (.int .i64 c) := rfl

theorem info35 : (Try.prog.info? 35).map (fun i => (i.zero, i.size, i.bytes)) = some (some (.agg #[(.int .i64 0), (.string ⟨#[]⟩), (.string ⟨#[]⟩)]), 3, 40) := by kernel_rfl
theorem info41 : (Try.prog.info? 41).map (fun i => (i.zero, i.size, i.bytes)) = some (some (.agg #[(.string ⟨#[]⟩), (.string ⟨#[]⟩)]), 2, 32) := by kernel_rfl
-- the values' own types
/-! #### struct type 41 -/
structure S41 where
  f0 : ByteArray
  f1 : ByteArray
def z41 : S41 := ⟨(⟨#[]⟩ : ByteArray), (⟨#[]⟩ : ByteArray)⟩
def k41 : Kd S41 := Kd.iso (Kd.pair Kd.string Kd.string) (fun x : S41 => (x.f0, x.f1))
theorem k41_open {w : World} {x : S41} {cs : List Value} (h : k41.K w x cs) : cs = [.string x.f0, .string x.f1] := by
  obtain ⟨_, _, rfl, rfl, rfl⟩ := h
  exact rfl
theorem k41_openM {w : World} {base : Nat} {ok : Nat → Prop} {x : S41} {cs : List Value} (h : k41.M w base ok x cs) : cs = [.string x.f0, .string x.f1] := by
  obtain ⟨_, _, rfl, rfl, rfl⟩ := h
  exact rfl
theorem k41_mk (w : World) (x : S41)  : k41.K w x [.string x.f0, .string x.f1] := ⟨[.string x.f0], [.string x.f1], rfl, rfl, rfl⟩
theorem k41_mkM (w : World) (base : Nat) (ok : Nat → Prop) (x : S41)  : k41.M w base ok x [.string x.f0, .string x.f1] := ⟨[.string x.f0], [.string x.f1], rfl, rfl, rfl⟩
def rd_T41 (xs : List S41) (i : Int) : S41 := xs.getD i.toNat z41
theorem at_T41 {w : World} {A : Option Addr} {n : Nat} {xs : List S41} (h : Kd.C k41 w A n xs) (i : Int) (h0 : 0 ≤ i) (h1 : i < n) : ∃ ad , A = some ad ∧ w.cell? (ad.add (i.toNat * 2)) = some (.string (rd_T41 xs i).f0) ∧ w.cell? ⟨(ad.add (i.toNat * 2)).block, (ad.add (i.toNat * 2)).off + 1, none⟩ = some (.string (rd_T41 xs i).f1) := by
  obtain ⟨ad, c, e, _, hK, hc0⟩ := Kd.C_get h z41 i h0 h1
  have hc : ∀ j u, c[j]? = some u → w.cell? (ad.add (i.toNat * 2 + j)) = some u := hc0
  obtain rfl := k41_open hK
  exact ⟨ad, e, hc 0 _ rfl, by rw [← add_field _ _ 1 (by omega)]; exact hc 1 _ rfl⟩

/-! #### struct type 35 -/
structure S35 where
  f0 : Int
  f1 : ByteArray
  f2 : ByteArray
def z35 : S35 := ⟨(0 : Int), (⟨#[]⟩ : ByteArray), (⟨#[]⟩ : ByteArray)⟩
def k35 : Kd S35 := Kd.iso (Kd.pair (Kd.int .i64) (Kd.pair Kd.string Kd.string)) (fun x : S35 => (x.f0, x.f1, x.f2))
theorem k35_open {w : World} {x : S35} {cs : List Value} (h : k35.K w x cs) : cs = [.int .i64 x.f0, .string x.f1, .string x.f2] := by
  obtain ⟨_, _, rfl, rfl, ⟨_, _, rfl, rfl, rfl⟩⟩ := h
  exact rfl
theorem k35_openM {w : World} {base : Nat} {ok : Nat → Prop} {x : S35} {cs : List Value} (h : k35.M w base ok x cs) : cs = [.int .i64 x.f0, .string x.f1, .string x.f2] := by
  obtain ⟨_, _, rfl, rfl, ⟨_, _, rfl, rfl, rfl⟩⟩ := h
  exact rfl
theorem k35_mk (w : World) (x : S35)  : k35.K w x [.int .i64 x.f0, .string x.f1, .string x.f2] := ⟨[.int .i64 x.f0], [.string x.f1, .string x.f2], rfl, rfl, ⟨[.string x.f1], [.string x.f2], rfl, rfl, rfl⟩⟩
theorem k35_mkM (w : World) (base : Nat) (ok : Nat → Prop) (x : S35)  : k35.M w base ok x [.int .i64 x.f0, .string x.f1, .string x.f2] := ⟨[.int .i64 x.f0], [.string x.f1, .string x.f2], rfl, rfl, ⟨[.string x.f1], [.string x.f2], rfl, rfl, rfl⟩⟩
def rd_T35 (xs : List S35) (i : Int) : S35 := xs.getD i.toNat z35
theorem at_T35 {w : World} {A : Option Addr} {n : Nat} {xs : List S35} (h : Kd.C k35 w A n xs) (i : Int) (h0 : 0 ≤ i) (h1 : i < n) : ∃ ad , A = some ad ∧ w.cell? (ad.add (i.toNat * 3)) = some (.int .i64 (rd_T35 xs i).f0) ∧ w.cell? ⟨(ad.add (i.toNat * 3)).block, (ad.add (i.toNat * 3)).off + 1, none⟩ = some (.string (rd_T35 xs i).f1) ∧ w.cell? ⟨(ad.add (i.toNat * 3)).block, (ad.add (i.toNat * 3)).off + 2, none⟩ = some (.string (rd_T35 xs i).f2) := by
  obtain ⟨ad, c, e, _, hK, hc0⟩ := Kd.C_get h z35 i h0 h1
  have hc : ∀ j u, c[j]? = some u → w.cell? (ad.add (i.toNat * 3 + j)) = some u := hc0
  obtain rfl := k35_open hK
  exact ⟨ad, e, hc 0 _ rfl, by rw [← add_field _ _ 1 (by omega)]; exact hc 1 _ rfl, by rw [← add_field _ _ 2 (by omega)]; exact hc 2 _ rfl⟩

end Go.Proofs.YtndgollcganhmaaQ.P
/- Printed by the kit's printer, with my stubs, for this claim. -/
namespace Go.Proofs.YtndgollcganhmaaQ.P
open Go.RowKit Go.Proofs.YtndgollcganhmaaW.PrintWords Go.Proofs.YtndgollcganhmaaW.PrintLast Go.Proofs.YtndgollcganhmaaW.PrintMore
attribute [local go_sem] max2_int min2_int max_two min_two max_three min_three max_four min_four   -- for this text's walks alone

/-! ### foghornlaw10_few: function 10 -/
def foghornlaw10_few.l0 : Nat → List (S41) → List (S41) → Int → Int → Option ((List (S41)))
  | 0, _, _, _, _ => none
  | k + 1, x3, x10, x11, x12 => if x12 < x11 then (if 0 ≤ x12 then (if x12 < (x10.length : Int) then (if 0 ≤ (mn (((rd_T41 x10 x12).f0).size : Int) 12) then (if (mn (((rd_T41 x10 x12).f0).size : Int) 12) ≤ (((rd_T41 x10 x12).f0).size : Int) then (if 0 ≤ (mn (((rd_T41 x10 x12).f1).size : Int) 12) then (if (mn (((rd_T41 x10 x12).f1).size : Int) 12) ≤ (((rd_T41 x10 x12).f1).size : Int) then (if x3.length < 4398046511104 then (foghornlaw10_few.l0 k (x3 ++ [(⟨((rd_T41 x10 x12).f0).extract 0 ((mn (((rd_T41 x10 x12).f0).size : Int) 12) : Int).toNat, ((rd_T41 x10 x12).f1).extract 0 ((mn (((rd_T41 x10 x12).f1).size : Int) 12) : Int).toNat⟩ : S41)]) x10 x11 (wrap64 (x12 + 1))) else (none)) else (none)) else (none)) else (none)) else (none)) else (none)) else (none)) else (some x3)
def foghornlaw10_few.f (k : Nat) (l0 : List (S41)) : Option ((List (S41))) := if 0 ≤ (mn (l0.length : Int) 6) then (if (mn (l0.length : Int) 6) ≤ (l0.length : Int) then ((some (l0.take ((mn (l0.length : Int) 6) : Int).toNat : List (S41))).bind fun y101 => (foghornlaw10_few.l0 k ([] : List (S41)) y101 (y101.length : Int) 0)) else (none)) else (none)
theorem foghornlaw10_few.mono_l : ∀ k, (∀ y0 y1 y2 y3, LeO (foghornlaw10_few.l0 k y0 y1 y2 y3) (foghornlaw10_few.l0 (k + 1) y0 y1 y2 y3))
  | 0 => fun _ _ _ _ r h => by simp [foghornlaw10_few.l0] at h
  | k + 1 => by
    have ih0 := foghornlaw10_few.mono_l k
    · intro y0 y1 y2 y3
      unfold foghornlaw10_few.l0
      repeat' first
      | (with_reducible exact ih0 _ _ _ _)
      | (with_reducible exact LeO.refl _)
      | (with_reducible exact LeO.none _)
      | (with_reducible refine LeO.ite ?_ ?_)
      | (with_reducible refine LeO.bind ?_ (fun _ => ?_))
      | exact ih0 _ _ _ _
      | exact LeO.none _
      | refine LeO.ite ?_ ?_
      | refine LeO.bind ?_ (fun _ => ?_)
theorem foghornlaw10_few.mono : ∀ a0 k, LeO (foghornlaw10_few.f k a0) (foghornlaw10_few.f (k + 1) a0) := by
  intro a0 k
  have ih0 := foghornlaw10_few.mono_l k
  unfold foghornlaw10_few.f
  repeat' first
      | (with_reducible exact ih0 _ _ _ _)
      | (with_reducible exact LeO.refl _)
      | (with_reducible exact LeO.none _)
      | (with_reducible refine LeO.ite ?_ ?_)
      | (with_reducible refine LeO.bind ?_ (fun _ => ?_))
      | exact ih0 _ _ _ _
      | exact LeO.none _
      | refine LeO.ite ?_ ?_
      | refine LeO.bind ?_ (fun _ => ?_)
def foghornlaw10_few.T5 : Bool × List (List Nat × List Nat) := (true, [([], []), ([], []), ([1], [1]), ([], []), ([3], [3]), ([4], [4]), ([5], [5]), ([2, 6], [2, 6]), ([], []), ([8], [8]), ([], []), ([10], [10]), ([11], [11]), ([12], [12]), ([9, 13], [9, 13]), ([7, 14], [7, 14]), ([15], [15]), ([0, 16], [0, 16]), ([17, 17, 0, 1, 2, 3, 4, 5, 6, 7, 8, 9, 10, 11, 12, 13, 14, 15, 16, 17], [0, 17])])
def foghornlaw10_few.B5 : List Nat := [0, 0, 2, 0, 8, 24, 56, 126, 0, 256, 0, 1024, 3072, 7168, 16128, 32766, 65534, 131071, 262143]
theorem foghornlaw10_few.tab5 : rtab .any (opsOf Try.f10 5) = foghornlaw10_few.T5 := by kernel_rfl
theorem foghornlaw10_few.bits5 : waitsOk foghornlaw10_few.T5.2 foghornlaw10_few.B5 = true := by kernel_rfl
set_option maxHeartbeats 8000000 in
set_option maxRecDepth 100000 in
theorem foghornlaw10_few.calls (k : Nat) (A0 : Option Addr) (c0 : Nat) (l0 : List (S41)) (r : List (S41)) (w : World) (hr0 : Kd.C k41 w A0 l0.length l0) (hc0 : l0.length ≤ c0) (h : foghornlaw10_few.f k l0 = some r) :
    Calls Try.prog 10 #[.slice A0 l0.length c0] w fun e w' => ∃ v0_ : Value, e = .returned (v0_) ∧ Kd.R k41 41 w' w.heap.size (fun _ => True) v0_ r ∧ Below w.heap.size w w' := by
  have hu41 := Try.underlying41
  have HR0 := Aside0.mk hr0
  have HC0 := Aside0.mk hc0
  clear hr0 hc0
  have HB := Aside0.mk (Below.refl w.heap.size w)
  have H : (if 0 ≤ (mn (l0.length : Int) 6) then (if (mn (l0.length : Int) 6) ≤ (l0.length : Int) then ((some (l0.take ((mn (l0.length : Int) 6) : Int).toNat : List (S41))).bind fun y101 => (foghornlaw10_few.l0 k ([] : List (S41)) y101 (y101.length : Int) 0)) else (none)) else (none)) = some r := h
  clear h
  obtain ⟨ji2, hji2⟩ : ∃ j_ : Int, (mn (l0.length : Int) 6) = j_ := ⟨_, rfl⟩
  replace H : (if 0 ≤ (ji2) then (if (ji2) ≤ (l0.length : Int) then ((some (l0.take ((ji2) : Int).toNat : List (S41))).bind fun y101 => (foghornlaw10_few.l0 k ([] : List (S41)) y101 (y101.length : Int) 0)) else (none)) else (none)) = some r := by first | (rw [hji2] at H; exact H) | (simp only [hji2] at H ⊢; exact H)
  (try (have hji2h : ji2 ≤ 6 := by (rw [← hji2]; unfold mn; (repeat' split) <;> omega)))
  (try (have hji2g : ji2 ≤ 64 := by omega))
  (try (have hji2l : 0 ≤ ji2 := by (rw [← hji2]; unfold mn; (repeat' split) <;> omega)))
  (try (have hji2m : 0 ≤ ji2 := by omega))
  have hji2_ : (if 6 < (l0.length : Int) then 6 else (l0.length : Int)) = ji2 := hji2
  by_cases c3 : 0 ≤ (ji2)
  · rw [if_pos c3] at H
    have c3b0 := eq_true c3
    have c3b1 : decide (0 ≤ (ji2)) = true := decide_eq_true c3
    clear c3
    by_cases c4 : (ji2) ≤ (l0.length : Int)
    · rw [if_pos c4] at H
      have c4b0 := eq_true c4
      have c4b1 : decide ((ji2) ≤ (l0.length : Int)) = true := decide_eq_true c4
      clear c4
      obtain ⟨y101, hy101⟩ : ∃ y_ : List (S41), y_ = (l0.take ((ji2) : Int).toNat) := ⟨_, rfl⟩
      replace H : (foghornlaw10_few.l0 k ([] : List (S41)) y101 (y101.length : Int) 0) = some r := by first | (rw [hy101]; with_reducible exact H) | (have H2_ := (Option.bind_some _ _).symm.trans H; rw [hy101]; with_reducible exact H2_) | (have H2_ := (Option.bind_some _ _).symm.trans H; with_reducible exact H2_) | with_reducible exact H | (rw [hy101]; exact H) | exact H
      have Ny101 := Aside0.mk hy101
      clear hy101
      have H' := Aside0.mk H
      clear H
      have q5 : ((ji2) : Int) ≤ ((l0.length : Int) : Int) := of_decide_eq_true (by first | (with_reducible assumption) | assumption)
      obtain ⟨i05, hi05, _, hsz5, _⟩ := info_parts info41
      have hroom5 : l0.length ≤ c0 := HC0.out
      have hC5 : Kd.C k41 _ A0 l0.length l0 := HR0.out
      have hcut5 := cut_to (P := Try.prog) 22 41 .i64 Try.underlying22 hi05 A0 l0.length c0 (ji2) (of_decide_eq_true (by first | (with_reducible assumption) | assumption)) q5 hroom5
      have hr5 := Kd.C_take (m := ((ji2) : Int).toNat) hC5 (by omega)
      have hy5 : y101.length = ((ji2) : Int).toNat := (by rw [Ny101.out, List.length_take]; omega)
      rw [← Ny101.out] at hr5
      rw [← hy5] at hcut5
      have HR104 := Aside0.mk hr5
      have HC104 := Aside0.mk (show y101.length ≤ c0 from by omega)
      clear hr5 hC5 hroom5 hi05 hsz5
      have KY5 := Aside0.mk hy5
      clear hy5
      replace q5 := eq_true q5
      go_enter Try.func10, Try.ntmps10
      go_wp2
      go_loopg [3, 12] k (fun kq v3 v12 w' => ∃ (x3_1 : List (S41)) (x12_1 : Int), v12 = .int .i64 x12_1 ∧ Aside0 (foghornlaw10_few.l0 kq x3_1 y101 (y101.length : Int) x12_1 = some r) ∧ Aside0 (kq ≤ k) ∧ Aside0 (Kd.R k41 41 w' w.heap.size (fun _ => True) v3 x3_1) ∧ Aside0 (Below w.heap.size w w'))
      case atStart => exact ⟨(([] : List (S41))), (0), (by first | rfl | (simp; done) | (simp [*]; done)), H', ⟨Nat.le_refl _⟩, ⟨by first | exact Kd.R_nil _ _ _ _ _ | exact Kd.N_nil _ _ _ _ _ | exact Kd.V_nil _ _ _ _ _ | exact Kd.Q_nil _ _ _ _ _ | exact Kd.S_nil _ _ _ _ _⟩, ⟨by repeat (first | (with_reducible first | exact HB.out | apply below_alloc | apply pw_below_drewN | apply below_drew1) | exact HB.out)⟩⟩
      case round =>
        clear H'
        try clear c1
        try clear p2
        try clear c3
        try clear c3b0
        try clear c3b1
        try clear c4
        try clear c4b0
        try clear c4b1
        try clear q5
        try clear q5
        obtain ⟨x3_1, x12_1, rfl, HA, HK1, HO_3, HB⟩ := hrel
        cases gk with
        | zero => exact absurd HA.out (by simp [foghornlaw10_few.l0])
        | succ k1 =>
          have H := HA.out
          clear HA
          simp only [foghornlaw10_few.l0] at H
          by_cases c6 : x12_1 < (y101.length : Int)
          · rw [if_pos c6] at H
            have c6b0 : decide (x12_1 < (y101.length : Int)) = true := decide_eq_true c6
            clear c6
            by_cases c7 : 0 ≤ x12_1
            · rw [if_pos c7] at H
              have c7b0 : decide (0 ≤ x12_1) = true := decide_eq_true c7
              clear c7
              by_cases c8 : x12_1 < (y101.length : Int)
              · rw [if_pos c8] at H
                have c8b0 : decide (x12_1 < (y101.length : Int)) = true := decide_eq_true c8
                clear c8
                obtain ⟨ji9, hji9⟩ : ∃ j_ : Int, (mn (((rd_T41 y101 x12_1).f0).size : Int) 12) = j_ := ⟨_, rfl⟩
                replace H : (if 0 ≤ (ji9) then (if (ji9) ≤ (((rd_T41 y101 x12_1).f0).size : Int) then (if 0 ≤ (mn (((rd_T41 y101 x12_1).f1).size : Int) 12) then (if (mn (((rd_T41 y101 x12_1).f1).size : Int) 12) ≤ (((rd_T41 y101 x12_1).f1).size : Int) then (if x3_1.length < 4398046511104 then (foghornlaw10_few.l0 k1 (x3_1 ++ [(⟨((rd_T41 y101 x12_1).f0).extract 0 ((ji9) : Int).toNat, ((rd_T41 y101 x12_1).f1).extract 0 ((mn (((rd_T41 y101 x12_1).f1).size : Int) 12) : Int).toNat⟩ : S41)]) y101 (y101.length : Int) (wrap64 (x12_1 + 1))) else (none)) else (none)) else (none)) else (none)) else (none)) = some r := by first | (rw [hji9] at H; exact H) | (simp only [hji9] at H ⊢; exact H)
                have hji9_ : (if 12 < (((rd_T41 y101 x12_1).f0).size : Int) then 12 else (((rd_T41 y101 x12_1).f0).size : Int)) = ji9 := hji9
                by_cases c10 : 0 ≤ (ji9)
                · rw [if_pos c10] at H
                  have c10b0 := eq_true c10
                  have c10b1 : decide (0 ≤ (ji9)) = true := decide_eq_true c10
                  clear c10
                  by_cases c11 : (ji9) ≤ (((rd_T41 y101 x12_1).f0).size : Int)
                  · rw [if_pos c11] at H
                    have c11b0 := eq_true c11
                    have c11b1 : decide ((ji9) ≤ (((rd_T41 y101 x12_1).f0).size : Int)) = true := decide_eq_true c11
                    clear c11
                    obtain ⟨ji12, hji12⟩ : ∃ j_ : Int, (mn (((rd_T41 y101 x12_1).f1).size : Int) 12) = j_ := ⟨_, rfl⟩
                    replace H : (if 0 ≤ (ji12) then (if (ji12) ≤ (((rd_T41 y101 x12_1).f1).size : Int) then (if x3_1.length < 4398046511104 then (foghornlaw10_few.l0 k1 (x3_1 ++ [(⟨((rd_T41 y101 x12_1).f0).extract 0 ((ji9) : Int).toNat, ((rd_T41 y101 x12_1).f1).extract 0 ((ji12) : Int).toNat⟩ : S41)]) y101 (y101.length : Int) (wrap64 (x12_1 + 1))) else (none)) else (none)) else (none)) = some r := by first | (rw [hji12] at H; exact H) | (simp only [hji12] at H ⊢; exact H)
                    have hji12_ : (if 12 < (((rd_T41 y101 x12_1).f1).size : Int) then 12 else (((rd_T41 y101 x12_1).f1).size : Int)) = ji12 := hji12
                    by_cases c13 : 0 ≤ (ji12)
                    · rw [if_pos c13] at H
                      have c13b0 := eq_true c13
                      have c13b1 : decide (0 ≤ (ji12)) = true := decide_eq_true c13
                      clear c13
                      by_cases c14 : (ji12) ≤ (((rd_T41 y101 x12_1).f1).size : Int)
                      · rw [if_pos c14] at H
                        have c14b0 := eq_true c14
                        have c14b1 : decide ((ji12) ≤ (((rd_T41 y101 x12_1).f1).size : Int)) = true := decide_eq_true c14
                        clear c14
                        by_cases c15 : x3_1.length < 4398046511104
                        · rw [if_pos c15] at H
                          have LMc15 := Aside0.mk c15
                          clear c15
                          obtain ⟨y107, hy107⟩ : ∃ y_ : List (S41), y_ = (x3_1 ++ [(⟨((rd_T41 y101 x12_1).f0).extract 0 ((ji9) : Int).toNat, ((rd_T41 y101 x12_1).f1).extract 0 ((ji12) : Int).toNat⟩ : S41)]) := ⟨_, rfl⟩
                          replace H : (foghornlaw10_few.l0 k1 y107 y101 (y101.length : Int) (wrap64 (x12_1 + 1))) = some r := by first | (rw [hy107]; with_reducible exact H) | (have H2_ := (Option.bind_some _ _).symm.trans H; rw [hy107]; with_reducible exact H2_) | (have H2_ := (Option.bind_some _ _).symm.trans H; with_reducible exact H2_) | with_reducible exact H | (rw [hy107]; exact H) | exact H
                          have Ny107 := Aside0.mk hy107
                          clear hy107
                          have H' := Aside0.mk H
                          clear H
                          have p105 : 0 ≤ (x12_1 : Int) := of_decide_eq_true (by first | (with_reducible assumption) | assumption)
                          have q105 : x12_1 < (y101.length : Int) := of_decide_eq_true (by first | (with_reducible assumption) | assumption)
                          obtain ⟨ad105, e105, hx105_0, hx105_1⟩ := at_T41 HR104.out x12_1 p105 q105
                          cases e105
                          replace hx105_0 := (HB.out.cell (World.block_lt_of_cell? w _ hx105_0)).trans hx105_0
                          replace hx105_1 := (HB.out.cell (World.block_lt_of_cell? w _ hx105_1)).trans hx105_1
                          replace p105 := eq_true p105
                          replace q105 := eq_true q105
                          try go_wp2_with (first | ((with_reducible refine gate_dst (N := 5) rfl ?_); refine box_event ?hg (N := 5) ?hd (cs := #[.string (⟨#[]⟩ : ByteArray), .string (⟨#[]⟩ : ByteArray)]) (t := 41) ?hr ?_; (case hd => rfl); (case hg => rfl); (case hr => first | (go_simp; done) | (go_simp; rfl)); intro gb106 hg w16 hbox hb; have n0_ := Aside0.mk (Kd.R_below (Kd.R_elderB (by (with_reducible repeat (first | apply Kd.R_alloc | apply Kd.R_drewN | apply Kd.R_drew)); exact HO_3.out) gb106 (Nat.le_of_eq hg.symm)) hb); have n1_ := Aside0.mk (below_step (by repeat (first | (with_reducible first | exact HB.out | apply below_alloc | apply pw_below_drewN | apply below_drew1) | exact HB.out)) hb); have n2_ := Aside0.mk (hbox); have n3_ := Aside0.mk ((by rw [hg]; exact (below_size (by repeat (first | (with_reducible first | exact HB.out | apply below_alloc | apply pw_below_drewN | apply below_drew1) | exact HB.out))) : w.heap.size ≤ gb106)); have n4_ := Aside0.mk ((by rw [hg]; exact (below_size (by repeat (first | (with_reducible first | exact HB.out | apply below_alloc | apply pw_below_drewN | apply below_drew1) | exact HB.out))) : w.heap.size ≤ gb106)); clear HO_3; clear HB; have HO_3 := n0_; have HB := n1_; have BK106 := n2_; have GW106 := n3_; have GE106 := n4_; clear n0_ n1_ n2_ n3_ n4_; clear hb hbox hg; have hcz17_0 : w16.cell? ⟨gb106, 0, none⟩ = some (.string (⟨#[]⟩ : ByteArray)) := (blk_cell BK106.out 0).trans rfl; have hcz17_1 : w16.cell? ⟨gb106, 1, none⟩ = some (.string (⟨#[]⟩ : ByteArray)) := (blk_cell BK106.out 1).trans rfl; have hfz17_0 := blk_frozen BK106.out 0; have hfz17_1 := blk_frozen BK106.out 1))
                          have n0_ : Aside0 (Kd.R k41 41 ((w16.setCell ⟨gb106, 0, none⟩ (.string ((rd_T41 y101 x12_1).f0))).setCell ⟨gb106, 1, none⟩ (.string ((rd_T41 y101 x12_1).f1))) w.heap.size (fun k_ => k_ ≠ gb106) u3 x3_1) := ⟨by (with_reducible repeat (first | apply Kd.R_alloc | apply Kd.R_drewN | apply Kd.R_drew)); exact Kd.R_mono (Kd.R_far (p := ⟨gb106, 1, none⟩) (Kd.R_far (p := ⟨gb106, 0, none⟩) (Kd.R_mono HO_3.out (fun k_ hk => (⟨hk, hk.2⟩ : _ ∧ k_ ≠ gb106))) (fun _ hk => hk.2) (.string ((rd_T41 y101 x12_1).f0))) (fun _ hk => hk.2) (.string ((rd_T41 y101 x12_1).f1))) (fun _ hk => hk.1.2)⟩
                          have n1_ : Aside0 (((w16.setCell ⟨gb106, 0, none⟩ (.string ((rd_T41 y101 x12_1).f0))).setCell ⟨gb106, 1, none⟩ (.string ((rd_T41 y101 x12_1).f1))).heap[gb106]? = some (.cells #[.string ((rd_T41 y101 x12_1).f0), .string ((rd_T41 y101 x12_1).f1)] 41 (0, 0))) := ⟨by (with_reducible repeat (first | refine blk_drewN ?_ _ | refine blk_drew ?_ | refine blk_alloc ?_ _)); refine blk_put (cs := #[.string ((rd_T41 y101 x12_1).f0), .string (⟨#[]⟩ : ByteArray)]) ?_ 1 _ rfl; (with_reducible repeat (first | refine blk_drewN ?_ _ | refine blk_drew ?_ | refine blk_alloc ?_ _)); refine blk_put (cs := #[.string (⟨#[]⟩ : ByteArray), .string (⟨#[]⟩ : ByteArray)]) ?_ 0 _ rfl; (with_reducible repeat (first | refine blk_drewN ?_ _ | refine blk_drew ?_ | refine blk_alloc ?_ _)); exact BK106.out⟩
                          have n2_ : Aside0 (Below w.heap.size w ((w16.setCell ⟨gb106, 0, none⟩ (.string ((rd_T41 y101 x12_1).f0))).setCell ⟨gb106, 1, none⟩ (.string ((rd_T41 y101 x12_1).f1)))) := ⟨by repeat (first | (with_reducible first | exact HB.out | apply below_alloc | apply pw_below_drewN | apply below_drew1 | refine below_set ?_ GE106.out) | exact HB.out)⟩
                          (try clear HO_3)
                          (try clear BK106)
                          (try clear HB)
                          generalize ((w16.setCell ⟨gb106, 0, none⟩ (.string ((rd_T41 y101 x12_1).f0))).setCell ⟨gb106, 1, none⟩ (.string ((rd_T41 y101 x12_1).f1))) = w18 at n0_ n1_ n2_ ⊢
                          have HO_3 := n0_
                          have BK106 := n1_
                          have HB := n2_
                          clear n0_ n1_ n2_
                          have n0_ := Aside0.mk (Kd.R_drew HO_3.out)
                          have n1_ := Aside0.mk (blk_drew BK106.out)
                          have n2_ := Aside0.mk (below_drew1 HB.out)
                          clear HO_3
                          clear BK106
                          clear HB
                          have HO_3 := n0_
                          have BK106 := n1_
                          have HB := n2_
                          clear n0_ n1_ n2_
                          refine start_ (n := 19) (S := fun w' => w'.cell? ⟨gb106, 0, none⟩ = some (.string ((rd_T41 y101 x12_1).f0)) ∧ w'.cell? ⟨gb106, 1, none⟩ = some (.string ((rd_T41 y101 x12_1).f1))) (ds := []) #[false, false, false, false, false, false, false, false, false, false, false, false, false, false, false, false, false, false, false] (by kernel_rfl) rfl rfl ⟨(blk_cell BK106.out 0).trans rfl, (blk_cell BK106.out 1).trans rfl⟩ (fun hHeld => ?_); refine with_tabW foghornlaw10_few.tab5 foghornlaw10_few.bits5 (fun HT_ HW_ => ?_)
                          generalize w18.drew = w19 at HO_3 BK106 HB hHeld ⊢
                          refine pure_ (i := 0) (N := some 16) (v := ?_) (a' := ?_) #[true, false, false, false, false, false, false, false, false, false, false, false, false, false, false, false, false, false, false] rfl rfl (any_of HT_.out (by kernel_rfl)) (fun _ _ _ h => h) (Or.inl ⟨by rfl, ?_⟩) ?_ ?_
                          rotate_left
                          · intro w'
                            go_simp
                            with_reducible rfl
                          rotate_left
                          · simp only [Act.put, List.setIfInBounds_toArray, List.set_cons_zero, List.set_cons_succ, i64_w, i32_w]
                            rfl
                          refine pure_ (i := 1) (N := some 17) (v := ?_) (a' := ?_) #[true, true, false, false, false, false, false, false, false, false, false, false, false, false, false, false, false, false, false] rfl rfl (any_of HT_.out (by kernel_rfl)) (fun _ _ _ h => h) (Or.inl ⟨by rfl, ?_⟩) ?_ ?_
                          rotate_left
                          · intro w'
                            go_simp
                            with_reducible rfl
                          rotate_left
                          · simp only [Act.put, List.setIfInBounds_toArray, List.set_cons_zero, List.set_cons_succ, i64_w, i32_w]
                            rfl
                          refine pure_ (i := 3) (N := some 19) (v := ?_) (a' := ?_) #[true, true, false, true, false, false, false, false, false, false, false, false, false, false, false, false, false, false, false] rfl rfl (any_of HT_.out (by kernel_rfl)) (fun _ _ _ h => h) (Or.inl ⟨by rfl, ?_⟩) ?_ ?_
                          rotate_left
                          · intro w'
                            go_simp
                            with_reducible rfl
                          rotate_left
                          · simp only [Act.put, List.setIfInBounds_toArray, List.set_cons_zero, List.set_cons_succ, i64_w, i32_w]
                            rfl
                          refine pure_ (i := 8) (N := some 24) (v := ?_) (a' := ?_) #[true, true, false, true, false, false, false, false, true, false, false, false, false, false, false, false, false, false, false] rfl rfl (any_of HT_.out (by kernel_rfl)) (fun _ _ _ h => h) (Or.inl ⟨by rfl, ?_⟩) ?_ ?_
                          rotate_left
                          · intro w'
                            go_simp
                            with_reducible rfl
                          rotate_left
                          · simp only [Act.put, List.setIfInBounds_toArray, List.set_cons_zero, List.set_cons_succ, i64_w, i32_w]
                            rfl
                          refine pure_ (i := 10) (N := some 26) (v := ?_) (a' := ?_) #[true, true, false, true, false, false, false, false, true, false, true, false, false, false, false, false, false, false, false] rfl rfl (any_of HT_.out (by kernel_rfl)) (fun _ _ _ h => h) (Or.inl ⟨by rfl, ?_⟩) ?_ ?_
                          rotate_left
                          · intro w'
                            go_simp
                            with_reducible rfl
                          rotate_left
                          · simp only [Act.put, List.setIfInBounds_toArray, List.set_cons_zero, List.set_cons_succ, i64_w, i32_w]
                            rfl
                          refine take_ (i := 2) (N := some 18) (v := ?_) (a' := ?_) #[true, true, true, true, false, false, false, false, true, false, true, false, false, false, false, false, false, false, false] rfl rfl (take_ofW HT_.out HW_.out (by kernel_rfl)) (fun _ _ _ h => h) (Or.inl ⟨by rfl, ?_⟩) hHeld ?_ ?_
                          rotate_left
                          · rintro w' ⟨s0, s1⟩
                            go_simp
                            with_reducible rfl
                          rotate_left
                          · simp only [Act.put, List.setIfInBounds_toArray, List.set_cons_zero, List.set_cons_succ, i64_w, i32_w]
                            rfl
                          refine take_ (i := 4) (N := some 20) (v := ?_) (a' := ?_) #[true, true, true, true, true, false, false, false, true, false, true, false, false, false, false, false, false, false, false] rfl rfl (take_ofW HT_.out HW_.out (by kernel_rfl)) (fun _ _ _ h => h) (Or.inl ⟨by rfl, ?_⟩) hHeld ?_ ?_
                          rotate_left
                          · rintro w' ⟨s0, s1⟩
                            go_simp
                            with_reducible rfl
                          rotate_left
                          · simp only [Act.put, List.setIfInBounds_toArray, List.set_cons_zero, List.set_cons_succ, i64_w, i32_w]
                            rfl
                          refine pure_ (i := 5) (N := some 21) (v := ?_) (a' := ?_) #[true, true, true, true, true, true, false, false, true, false, true, false, false, false, false, false, false, false, false] rfl rfl (any_of HT_.out (by kernel_rfl)) (fun _ _ _ h => h) (Or.inl ⟨by rfl, ?_⟩) ?_ ?_
                          rotate_left
                          · intro w'
                            go_simp
                            with_reducible rfl
                          rotate_left
                          · simp only [Act.put, List.setIfInBounds_toArray, List.set_cons_zero, List.set_cons_succ, i64_w, i32_w]
                            rfl
                          refine pure_ (i := 6) (N := some 22) (v := ?_) (a' := ?_) #[true, true, true, true, true, true, true, false, true, false, true, false, false, false, false, false, false, false, false] rfl rfl (any_of HT_.out (by kernel_rfl)) (fun _ _ _ h => h) (Or.inl ⟨by rfl, ?_⟩) ?_ ?_
                          rotate_left
                          · intro w'
                            go_simp
                            with_reducible rfl
                          rotate_left
                          · simp only [Act.put, List.setIfInBounds_toArray, List.set_cons_zero, List.set_cons_succ, i64_w, i32_w]
                            rfl
                          refine pure_ (i := 7) (N := some 23) (v := ?_) (a' := ?_) #[true, true, true, true, true, true, true, true, true, false, true, false, false, false, false, false, false, false, false] rfl rfl (any_of HT_.out (by kernel_rfl)) (fun _ _ _ h => h) (Or.inl ⟨by rfl, ?_⟩) ?_ ?_
                          rotate_left
                          · intro w'
                            go_simp
                            with_reducible rfl
                          rotate_left
                          · simp only [Act.put, List.setIfInBounds_toArray, List.set_cons_zero, List.set_cons_succ, i64_w, i32_w]
                            rfl
                          refine take_ (i := 9) (N := some 25) (v := ?_) (a' := ?_) #[true, true, true, true, true, true, true, true, true, true, true, false, false, false, false, false, false, false, false] rfl rfl (take_ofW HT_.out HW_.out (by kernel_rfl)) (fun _ _ _ h => h) (Or.inl ⟨by rfl, ?_⟩) hHeld ?_ ?_
                          rotate_left
                          · rintro w' ⟨s0, s1⟩
                            go_simp
                            with_reducible rfl
                          rotate_left
                          · simp only [Act.put, List.setIfInBounds_toArray, List.set_cons_zero, List.set_cons_succ, i64_w, i32_w]
                            rfl
                          refine take_ (i := 11) (N := some 27) (v := ?_) (a' := ?_) #[true, true, true, true, true, true, true, true, true, true, true, true, false, false, false, false, false, false, false] rfl rfl (take_ofW HT_.out HW_.out (by kernel_rfl)) (fun _ _ _ h => h) (Or.inl ⟨by rfl, ?_⟩) hHeld ?_ ?_
                          rotate_left
                          · rintro w' ⟨s0, s1⟩
                            go_simp
                            with_reducible rfl
                          rotate_left
                          · simp only [Act.put, List.setIfInBounds_toArray, List.set_cons_zero, List.set_cons_succ, i64_w, i32_w]
                            rfl
                          refine pure_ (i := 12) (N := some 28) (v := ?_) (a' := ?_) #[true, true, true, true, true, true, true, true, true, true, true, true, true, false, false, false, false, false, false] rfl rfl (any_of HT_.out (by kernel_rfl)) (fun _ _ _ h => h) (Or.inl ⟨by rfl, ?_⟩) ?_ ?_
                          rotate_left
                          · intro w'
                            go_simp
                            with_reducible rfl
                          rotate_left
                          · simp only [Act.put, List.setIfInBounds_toArray, List.set_cons_zero, List.set_cons_succ, i64_w, i32_w]
                            rfl
                          refine pure_ (i := 13) (N := some 29) (v := ?_) (a' := ?_) #[true, true, true, true, true, true, true, true, true, true, true, true, true, true, false, false, false, false, false] rfl rfl (any_of HT_.out (by kernel_rfl)) (fun _ _ _ h => h) (Or.inl ⟨by rfl, ?_⟩) ?_ ?_
                          rotate_left
                          · intro w'
                            go_simp
                            with_reducible rfl
                          rotate_left
                          · simp only [Act.put, List.setIfInBounds_toArray, List.set_cons_zero, List.set_cons_succ, i64_w, i32_w]
                            rfl
                          refine pure_ (i := 14) (N := some 30) (v := ?_) (a' := ?_) #[true, true, true, true, true, true, true, true, true, true, true, true, true, true, true, false, false, false, false] rfl rfl (any_of HT_.out (by kernel_rfl)) (fun _ _ _ h => h) (Or.inl ⟨by rfl, ?_⟩) ?_ ?_
                          rotate_left
                          · intro w'
                            go_simp
                            with_reducible rfl
                          rotate_left
                          · simp only [Act.put, List.setIfInBounds_toArray, List.set_cons_zero, List.set_cons_succ, i64_w, i32_w]
                            rfl
                          refine pure_ (i := 15) (N := some 31) (v := ?_) (a' := ?_) #[true, true, true, true, true, true, true, true, true, true, true, true, true, true, true, true, false, false, false] rfl rfl (any_of HT_.out (by kernel_rfl)) (fun _ _ _ h => h) (Or.inl ⟨by rfl, ?_⟩) ?_ ?_
                          rotate_left
                          · intro w'
                            go_simp
                            with_reducible rfl
                          rotate_left
                          · simp only [Act.put, List.setIfInBounds_toArray, List.set_cons_zero, List.set_cons_succ, i64_w, i32_w]
                            rfl
                          refine one_ (i := 16) (N := some 32) #[true, true, true, true, true, true, true, true, true, true, true, true, true, true, true, true, true, false, false] rfl rfl (one_of HT_.out (by kernel_rfl)) (by decide) (fun K hK => ?_)
                          refine value_ (w1 := ?_) (v := ?_) (by rfl) rfl ?_ ?_
                          rotate_left 2
                          · go_simp
                            constructor
                            · rfl
                            · rfl
                          refine hK.out _ _ ⟨(blk_cell (blk_alloc BK106.out _) 0).trans rfl, (blk_cell (blk_alloc BK106.out _) 1).trans rfl⟩ (fun hHeld => ?_)
                          clear hK K
                          refine norm_ (a' := ?_) ?_ ?_
                          rotate_left
                          · show Act.put _ (some 32) _ = _
                            simp only [Act.put, List.setIfInBounds_toArray, List.set_cons_zero, List.set_cons_succ, i64_w, i32_w]
                            rfl
                          refine one_ (i := 17) (N := some 33) #[true, true, true, true, true, true, true, true, true, true, true, true, true, true, true, true, true, true, false] rfl rfl (one_of HT_.out (by kernel_rfl)) (by decide) (fun K hK => ?_)
                          refine Kd.R_append_step k41 (w0 := w) w.heap.size (by rfl) (.tmp 16) (.tmp 32) 22 41 (.agg #[(.string ⟨#[]⟩), (.string ⟨#[]⟩)]) 32 rfl Try.underlying22 info41 rfl (by decide) (by omega) u3 x3_1 (⟨((rd_T41 y101 x12_1).f0).extract 0 ((ji9) : Int).toNat, ((rd_T41 y101 x12_1).f1).extract 0 ((ji12) : Int).toNat⟩ : S41) [.string (((rd_T41 y101 x12_1).f0).extract 0 ((ji9) : Int).toNat), .string (((rd_T41 y101 x12_1).f1).extract 0 ((ji12) : Int).toNat)] (fun k_ => k_ ≠ gb106) (fun _ => False) rfl rfl ?aP (fun _ hk => hk.elim) ?aF ?aO ?aB ?aS ?aL ?_
                          (case aP => exact k41_mkM _ _ _ (⟨((rd_T41 y101 x12_1).f0).extract 0 ((ji9) : Int).toNat, ((rd_T41 y101 x12_1).f1).extract 0 ((ji12) : Int).toNat⟩ : S41))
                          (case aB => exact (by repeat (first | (with_reducible first | exact HB.out | apply below_alloc | apply pw_below_drewN | apply below_drew1 | refine below_set ?_ GE106.out) | exact HB.out)))
                          (case aF => exact (fun k_ hk => Kd.freshB (g := gb106) (o := .cells #[.string ((rd_T41 y101 x12_1).f0), .string ((rd_T41 y101 x12_1).f1)] 41 (0, 0)) (by (with_reducible repeat (first | refine blk_drewN ?_ _ | refine blk_drew ?_ | refine blk_alloc ?_ _)); exact BK106.out) k_ hk))
                          (case aO => exact (by (with_reducible repeat (first | apply Kd.R_alloc | apply Kd.R_drewN | apply Kd.R_drew)); exact HO_3.out))
                          (case aS => exact (below_size (by repeat (first | (with_reducible first | exact HB.out | apply below_alloc | apply pw_below_drewN | apply below_drew1 | refine below_set ?_ GE106.out) | exact HB.out))))
                          (case aL => have := LMc15.out; omega)
                          intro v108 w20 ho hb hg hat
                          rw [← Ny107.out] at ho
                          have n0_ := Aside0.mk (blk_grown (g := gb106) (o := .cells #[.string ((rd_T41 y101 x12_1).f0), .string ((rd_T41 y101 x12_1).f1)] 41 (0, 0)) (by (with_reducible repeat (first | refine blk_drewN ?_ _ | refine blk_drew ?_ | refine blk_alloc ?_ _)); exact BK106.out) hg (Kd.R_away HO_3.out (fun _ hk => hk)))
                          have n1_ := Aside0.mk (hb)
                          have n2_ := Aside0.mk (ho)
                          clear BK106
                          clear HB
                          clear HO_3
                          have BK106 := n0_
                          have HB := n1_
                          have HO109 := n2_
                          clear n0_ n1_ n2_
                          clear ho hb hg hat
                          refine hK.out _ _ ⟨(blk_cell BK106.out 0).trans rfl, (blk_cell BK106.out 1).trans rfl⟩ (fun hHeld => ?_)
                          clear hK K
                          refine norm_ (a' := ?_) ?_ ?_
                          rotate_left
                          · show Act.put _ (some 33) _ = _
                            simp only [Act.put, List.setIfInBounds_toArray, List.set_cons_zero, List.set_cons_succ, i64_w, i32_w]
                            rfl
                          refine pure_ (i := 18) (N := some 3) (v := ?_) (a' := ?_) #[true, true, true, true, true, true, true, true, true, true, true, true, true, true, true, true, true, true, true] rfl rfl (any_of HT_.out (by kernel_rfl)) (fun _ _ _ h => h) (Or.inl ⟨by rfl, ?_⟩) ?_ ?_
                          rotate_left
                          · intro w'
                            go_simp
                            with_reducible rfl
                          rotate_left
                          · simp only [Act.put, List.setIfInBounds_toArray, List.set_cons_zero, List.set_cons_succ, i64_w, i32_w]
                            rfl
                          refine done_ (done_of HT_.out (by kernel_rfl)) ?_
                          try go_wp2
                          go_roundg k1
                          case measure => have := HK1.out; omega
                          case rel => exact ⟨(y107), (wrap64 (x12_1 + 1)), (by first | rfl | (simp; done) | (simp [*]; done)), H', ⟨by have := HK1.out; omega⟩, ⟨by (with_reducible repeat (first | apply Kd.R_alloc | apply Kd.R_drewN | apply Kd.R_drew)); exact Kd.R_mono HO109.out (fun _ hk => trivial)⟩, ⟨by repeat (first | (with_reducible first | exact HB.out | apply below_alloc | apply pw_below_drewN | apply below_drew1 | refine below_set ?_ GE106.out) | exact HB.out)⟩⟩
                        · rw [if_neg c15] at H
                          exact absurd H (by simp)
                      · rw [if_neg c14] at H
                        exact absurd H (by simp)
                    · rw [if_neg c13] at H
                      exact absurd H (by simp)
                  · rw [if_neg c11] at H
                    exact absurd H (by simp)
                · rw [if_neg c10] at H
                  exact absurd H (by simp)
              · rw [if_neg c8] at H
                exact absurd H (by simp)
            · rw [if_neg c7] at H
              exact absurd H (by simp)
          · rw [if_neg c6] at H
            have c6b0 : decide (x12_1 < (y101.length : Int)) = false := decide_eq_false c6
            clear c6
            obtain rfl := Option.some.inj H
            go_wp2
            go_ret
            exact ⟨_, by first | rfl | (simp [errW_none, errW_some] <;> rfl) | (simp only [← hji2]; first | rfl | (simp [errW_none, errW_some] <;> rfl)) | (simp [*, errW_none, errW_some] <;> rfl), by (with_reducible repeat (first | apply Kd.R_alloc | apply Kd.R_drewN | apply Kd.R_drew)); exact HO_3.out, by repeat (first | (with_reducible first | exact HB.out | apply below_alloc | apply pw_below_drewN | apply below_drew1) | exact HB.out)⟩
    · rw [if_neg c4] at H
      exact absurd H (by simp)
  · rw [if_neg c3] at H
    exact absurd H (by simp)

/-! ### foghornlaw10_asked: function 11 -/
def foghornlaw10_asked.l0 : Nat → List (S35) → List (S35) → Int → Int → Option ((List (S35)))
  | 0, _, _, _, _ => none
  | k + 1, x3, x10, x11, x12 => if x12 < x11 then (if 0 ≤ x12 then (if x12 < (x10.length : Int) then (if 0 ≤ (mn (((rd_T35 x10 x12).f1).size : Int) 12) then (if (mn (((rd_T35 x10 x12).f1).size : Int) 12) ≤ (((rd_T35 x10 x12).f1).size : Int) then (if 0 ≤ (mn (((rd_T35 x10 x12).f2).size : Int) 12) then (if (mn (((rd_T35 x10 x12).f2).size : Int) 12) ≤ (((rd_T35 x10 x12).f2).size : Int) then (if x3.length < 3518437208883 then (foghornlaw10_asked.l0 k (x3 ++ [(⟨(rd_T35 x10 x12).f0, ((rd_T35 x10 x12).f1).extract 0 ((mn (((rd_T35 x10 x12).f1).size : Int) 12) : Int).toNat, ((rd_T35 x10 x12).f2).extract 0 ((mn (((rd_T35 x10 x12).f2).size : Int) 12) : Int).toNat⟩ : S35)]) x10 x11 (wrap64 (x12 + 1))) else (none)) else (none)) else (none)) else (none)) else (none)) else (none)) else (none)) else (some x3)
def foghornlaw10_asked.f (k : Nat) (l0 : List (S35)) : Option ((List (S35))) := if 0 ≤ (mn (l0.length : Int) 6) then (if (mn (l0.length : Int) 6) ≤ (l0.length : Int) then ((some (l0.take ((mn (l0.length : Int) 6) : Int).toNat : List (S35))).bind fun y110 => (foghornlaw10_asked.l0 k ([] : List (S35)) y110 (y110.length : Int) 0)) else (none)) else (none)
theorem foghornlaw10_asked.mono_l : ∀ k, (∀ y0 y1 y2 y3, LeO (foghornlaw10_asked.l0 k y0 y1 y2 y3) (foghornlaw10_asked.l0 (k + 1) y0 y1 y2 y3))
  | 0 => fun _ _ _ _ r h => by simp [foghornlaw10_asked.l0] at h
  | k + 1 => by
    have ih0 := foghornlaw10_asked.mono_l k
    · intro y0 y1 y2 y3
      unfold foghornlaw10_asked.l0
      repeat' first
      | (with_reducible exact ih0 _ _ _ _)
      | (with_reducible exact LeO.refl _)
      | (with_reducible exact LeO.none _)
      | (with_reducible refine LeO.ite ?_ ?_)
      | (with_reducible refine LeO.bind ?_ (fun _ => ?_))
      | exact ih0 _ _ _ _
      | exact LeO.none _
      | refine LeO.ite ?_ ?_
      | refine LeO.bind ?_ (fun _ => ?_)
theorem foghornlaw10_asked.mono : ∀ a0 k, LeO (foghornlaw10_asked.f k a0) (foghornlaw10_asked.f (k + 1) a0) := by
  intro a0 k
  have ih0 := foghornlaw10_asked.mono_l k
  unfold foghornlaw10_asked.f
  repeat' first
      | (with_reducible exact ih0 _ _ _ _)
      | (with_reducible exact LeO.refl _)
      | (with_reducible exact LeO.none _)
      | (with_reducible refine LeO.ite ?_ ?_)
      | (with_reducible refine LeO.bind ?_ (fun _ => ?_))
      | exact ih0 _ _ _ _
      | exact LeO.none _
      | refine LeO.ite ?_ ?_
      | refine LeO.bind ?_ (fun _ => ?_)
def foghornlaw10_asked.T5 : Bool × List (List Nat × List Nat) := (true, [([], []), ([], []), ([1], [1]), ([], []), ([3], [3]), ([], []), ([5], [5]), ([6], [6]), ([7], [7]), ([4, 8], [4, 8]), ([], []), ([10], [10]), ([], []), ([12], [12]), ([13], [13]), ([14], [14]), ([11, 15], [11, 15]), ([2, 9, 16], [2, 9, 16]), ([17], [17]), ([0, 18], [0, 18]), ([19, 19, 0, 1, 2, 3, 4, 5, 6, 7, 8, 9, 10, 11, 12, 13, 14, 15, 16, 17, 18, 19], [0, 19])])
def foghornlaw10_asked.B5 : List Nat := [0, 0, 2, 0, 8, 0, 32, 96, 224, 504, 0, 1024, 0, 4096, 12288, 28672, 64512, 131070, 262142, 524287, 1048575]
theorem foghornlaw10_asked.tab5 : rtab .any (opsOf Try.f11 5) = foghornlaw10_asked.T5 := by kernel_rfl
theorem foghornlaw10_asked.bits5 : waitsOk foghornlaw10_asked.T5.2 foghornlaw10_asked.B5 = true := by kernel_rfl
set_option maxHeartbeats 8000000 in
set_option maxRecDepth 100000 in
theorem foghornlaw10_asked.calls (k : Nat) (A0 : Option Addr) (c0 : Nat) (l0 : List (S35)) (r : List (S35)) (w : World) (hr0 : Kd.C k35 w A0 l0.length l0) (hc0 : l0.length ≤ c0) (h : foghornlaw10_asked.f k l0 = some r) :
    Calls Try.prog 11 #[.slice A0 l0.length c0] w fun e w' => ∃ v0_ : Value, e = .returned (v0_) ∧ Kd.R k35 35 w' w.heap.size (fun _ => True) v0_ r ∧ Below w.heap.size w w' := by
  have hu35 := Try.underlying35
  have HR0 := Aside0.mk hr0
  have HC0 := Aside0.mk hc0
  clear hr0 hc0
  have HB := Aside0.mk (Below.refl w.heap.size w)
  have H : (if 0 ≤ (mn (l0.length : Int) 6) then (if (mn (l0.length : Int) 6) ≤ (l0.length : Int) then ((some (l0.take ((mn (l0.length : Int) 6) : Int).toNat : List (S35))).bind fun y110 => (foghornlaw10_asked.l0 k ([] : List (S35)) y110 (y110.length : Int) 0)) else (none)) else (none)) = some r := h
  clear h
  obtain ⟨ji2, hji2⟩ : ∃ j_ : Int, (mn (l0.length : Int) 6) = j_ := ⟨_, rfl⟩
  replace H : (if 0 ≤ (ji2) then (if (ji2) ≤ (l0.length : Int) then ((some (l0.take ((ji2) : Int).toNat : List (S35))).bind fun y110 => (foghornlaw10_asked.l0 k ([] : List (S35)) y110 (y110.length : Int) 0)) else (none)) else (none)) = some r := by first | (rw [hji2] at H; exact H) | (simp only [hji2] at H ⊢; exact H)
  (try (have hji2h : ji2 ≤ 6 := by (rw [← hji2]; unfold mn; (repeat' split) <;> omega)))
  (try (have hji2g : ji2 ≤ 64 := by omega))
  (try (have hji2l : 0 ≤ ji2 := by (rw [← hji2]; unfold mn; (repeat' split) <;> omega)))
  (try (have hji2m : 0 ≤ ji2 := by omega))
  have hji2_ : (if 6 < (l0.length : Int) then 6 else (l0.length : Int)) = ji2 := hji2
  by_cases c3 : 0 ≤ (ji2)
  · rw [if_pos c3] at H
    have c3b0 := eq_true c3
    have c3b1 : decide (0 ≤ (ji2)) = true := decide_eq_true c3
    clear c3
    by_cases c4 : (ji2) ≤ (l0.length : Int)
    · rw [if_pos c4] at H
      have c4b0 := eq_true c4
      have c4b1 : decide ((ji2) ≤ (l0.length : Int)) = true := decide_eq_true c4
      clear c4
      obtain ⟨y110, hy110⟩ : ∃ y_ : List (S35), y_ = (l0.take ((ji2) : Int).toNat) := ⟨_, rfl⟩
      replace H : (foghornlaw10_asked.l0 k ([] : List (S35)) y110 (y110.length : Int) 0) = some r := by first | (rw [hy110]; with_reducible exact H) | (have H2_ := (Option.bind_some _ _).symm.trans H; rw [hy110]; with_reducible exact H2_) | (have H2_ := (Option.bind_some _ _).symm.trans H; with_reducible exact H2_) | with_reducible exact H | (rw [hy110]; exact H) | exact H
      have Ny110 := Aside0.mk hy110
      clear hy110
      have H' := Aside0.mk H
      clear H
      have q5 : ((ji2) : Int) ≤ ((l0.length : Int) : Int) := of_decide_eq_true (by first | (with_reducible assumption) | assumption)
      obtain ⟨i05, hi05, _, hsz5, _⟩ := info_parts info35
      have hroom5 : l0.length ≤ c0 := HC0.out
      have hC5 : Kd.C k35 _ A0 l0.length l0 := HR0.out
      have hcut5 := cut_to (P := Try.prog) 23 35 .i64 Try.underlying23 hi05 A0 l0.length c0 (ji2) (of_decide_eq_true (by first | (with_reducible assumption) | assumption)) q5 hroom5
      have hr5 := Kd.C_take (m := ((ji2) : Int).toNat) hC5 (by omega)
      have hy5 : y110.length = ((ji2) : Int).toNat := (by rw [Ny110.out, List.length_take]; omega)
      rw [← Ny110.out] at hr5
      rw [← hy5] at hcut5
      have HR113 := Aside0.mk hr5
      have HC113 := Aside0.mk (show y110.length ≤ c0 from by omega)
      clear hr5 hC5 hroom5 hi05 hsz5
      have KY5 := Aside0.mk hy5
      clear hy5
      replace q5 := eq_true q5
      go_enter Try.func11, Try.ntmps11
      go_wp2
      go_loopg [3, 12] k (fun kq v3 v12 w' => ∃ (x3_1 : List (S35)) (x12_1 : Int), v12 = .int .i64 x12_1 ∧ Aside0 (foghornlaw10_asked.l0 kq x3_1 y110 (y110.length : Int) x12_1 = some r) ∧ Aside0 (kq ≤ k) ∧ Aside0 (Kd.R k35 35 w' w.heap.size (fun _ => True) v3 x3_1) ∧ Aside0 (Below w.heap.size w w'))
      case atStart => exact ⟨(([] : List (S35))), (0), (by first | rfl | (simp; done) | (simp [*]; done)), H', ⟨Nat.le_refl _⟩, ⟨by first | exact Kd.R_nil _ _ _ _ _ | exact Kd.N_nil _ _ _ _ _ | exact Kd.V_nil _ _ _ _ _ | exact Kd.Q_nil _ _ _ _ _ | exact Kd.S_nil _ _ _ _ _⟩, ⟨by repeat (first | (with_reducible first | exact HB.out | apply below_alloc | apply pw_below_drewN | apply below_drew1) | exact HB.out)⟩⟩
      case round =>
        clear H'
        try clear c1
        try clear p2
        try clear c3
        try clear c3b0
        try clear c3b1
        try clear c4
        try clear c4b0
        try clear c4b1
        try clear q5
        try clear q5
        obtain ⟨x3_1, x12_1, rfl, HA, HK1, HO_3, HB⟩ := hrel
        cases gk with
        | zero => exact absurd HA.out (by simp [foghornlaw10_asked.l0])
        | succ k1 =>
          have H := HA.out
          clear HA
          simp only [foghornlaw10_asked.l0] at H
          by_cases c6 : x12_1 < (y110.length : Int)
          · rw [if_pos c6] at H
            have c6b0 : decide (x12_1 < (y110.length : Int)) = true := decide_eq_true c6
            clear c6
            by_cases c7 : 0 ≤ x12_1
            · rw [if_pos c7] at H
              have c7b0 : decide (0 ≤ x12_1) = true := decide_eq_true c7
              clear c7
              by_cases c8 : x12_1 < (y110.length : Int)
              · rw [if_pos c8] at H
                have c8b0 : decide (x12_1 < (y110.length : Int)) = true := decide_eq_true c8
                clear c8
                obtain ⟨ji9, hji9⟩ : ∃ j_ : Int, (mn (((rd_T35 y110 x12_1).f1).size : Int) 12) = j_ := ⟨_, rfl⟩
                replace H : (if 0 ≤ (ji9) then (if (ji9) ≤ (((rd_T35 y110 x12_1).f1).size : Int) then (if 0 ≤ (mn (((rd_T35 y110 x12_1).f2).size : Int) 12) then (if (mn (((rd_T35 y110 x12_1).f2).size : Int) 12) ≤ (((rd_T35 y110 x12_1).f2).size : Int) then (if x3_1.length < 3518437208883 then (foghornlaw10_asked.l0 k1 (x3_1 ++ [(⟨(rd_T35 y110 x12_1).f0, ((rd_T35 y110 x12_1).f1).extract 0 ((ji9) : Int).toNat, ((rd_T35 y110 x12_1).f2).extract 0 ((mn (((rd_T35 y110 x12_1).f2).size : Int) 12) : Int).toNat⟩ : S35)]) y110 (y110.length : Int) (wrap64 (x12_1 + 1))) else (none)) else (none)) else (none)) else (none)) else (none)) = some r := by first | (rw [hji9] at H; exact H) | (simp only [hji9] at H ⊢; exact H)
                have hji9_ : (if 12 < (((rd_T35 y110 x12_1).f1).size : Int) then 12 else (((rd_T35 y110 x12_1).f1).size : Int)) = ji9 := hji9
                by_cases c10 : 0 ≤ (ji9)
                · rw [if_pos c10] at H
                  have c10b0 := eq_true c10
                  have c10b1 : decide (0 ≤ (ji9)) = true := decide_eq_true c10
                  clear c10
                  by_cases c11 : (ji9) ≤ (((rd_T35 y110 x12_1).f1).size : Int)
                  · rw [if_pos c11] at H
                    have c11b0 := eq_true c11
                    have c11b1 : decide ((ji9) ≤ (((rd_T35 y110 x12_1).f1).size : Int)) = true := decide_eq_true c11
                    clear c11
                    obtain ⟨ji12, hji12⟩ : ∃ j_ : Int, (mn (((rd_T35 y110 x12_1).f2).size : Int) 12) = j_ := ⟨_, rfl⟩
                    replace H : (if 0 ≤ (ji12) then (if (ji12) ≤ (((rd_T35 y110 x12_1).f2).size : Int) then (if x3_1.length < 3518437208883 then (foghornlaw10_asked.l0 k1 (x3_1 ++ [(⟨(rd_T35 y110 x12_1).f0, ((rd_T35 y110 x12_1).f1).extract 0 ((ji9) : Int).toNat, ((rd_T35 y110 x12_1).f2).extract 0 ((ji12) : Int).toNat⟩ : S35)]) y110 (y110.length : Int) (wrap64 (x12_1 + 1))) else (none)) else (none)) else (none)) = some r := by first | (rw [hji12] at H; exact H) | (simp only [hji12] at H ⊢; exact H)
                    have hji12_ : (if 12 < (((rd_T35 y110 x12_1).f2).size : Int) then 12 else (((rd_T35 y110 x12_1).f2).size : Int)) = ji12 := hji12
                    by_cases c13 : 0 ≤ (ji12)
                    · rw [if_pos c13] at H
                      have c13b0 := eq_true c13
                      have c13b1 : decide (0 ≤ (ji12)) = true := decide_eq_true c13
                      clear c13
                      by_cases c14 : (ji12) ≤ (((rd_T35 y110 x12_1).f2).size : Int)
                      · rw [if_pos c14] at H
                        have c14b0 := eq_true c14
                        have c14b1 : decide ((ji12) ≤ (((rd_T35 y110 x12_1).f2).size : Int)) = true := decide_eq_true c14
                        clear c14
                        by_cases c15 : x3_1.length < 3518437208883
                        · rw [if_pos c15] at H
                          have LMc15 := Aside0.mk c15
                          clear c15
                          obtain ⟨y116, hy116⟩ : ∃ y_ : List (S35), y_ = (x3_1 ++ [(⟨(rd_T35 y110 x12_1).f0, ((rd_T35 y110 x12_1).f1).extract 0 ((ji9) : Int).toNat, ((rd_T35 y110 x12_1).f2).extract 0 ((ji12) : Int).toNat⟩ : S35)]) := ⟨_, rfl⟩
                          replace H : (foghornlaw10_asked.l0 k1 y116 y110 (y110.length : Int) (wrap64 (x12_1 + 1))) = some r := by first | (rw [hy116]; with_reducible exact H) | (have H2_ := (Option.bind_some _ _).symm.trans H; rw [hy116]; with_reducible exact H2_) | (have H2_ := (Option.bind_some _ _).symm.trans H; with_reducible exact H2_) | with_reducible exact H | (rw [hy116]; exact H) | exact H
                          have Ny116 := Aside0.mk hy116
                          clear hy116
                          have H' := Aside0.mk H
                          clear H
                          have p114 : 0 ≤ (x12_1 : Int) := of_decide_eq_true (by first | (with_reducible assumption) | assumption)
                          have q114 : x12_1 < (y110.length : Int) := of_decide_eq_true (by first | (with_reducible assumption) | assumption)
                          obtain ⟨ad114, e114, hx114_0, hx114_1, hx114_2⟩ := at_T35 HR113.out x12_1 p114 q114
                          cases e114
                          replace hx114_0 := (HB.out.cell (World.block_lt_of_cell? w _ hx114_0)).trans hx114_0
                          replace hx114_1 := (HB.out.cell (World.block_lt_of_cell? w _ hx114_1)).trans hx114_1
                          replace hx114_2 := (HB.out.cell (World.block_lt_of_cell? w _ hx114_2)).trans hx114_2
                          replace p114 := eq_true p114
                          replace q114 := eq_true q114
                          try go_wp2_with (first | ((with_reducible refine gate_dst (N := 5) rfl ?_); refine box_event ?hg (N := 5) ?hd (cs := #[.int .i64 0, .string (⟨#[]⟩ : ByteArray), .string (⟨#[]⟩ : ByteArray)]) (t := 35) ?hr ?_; (case hd => rfl); (case hg => rfl); (case hr => first | (go_simp; done) | (go_simp; rfl)); intro gb115 hg w16 hbox hb; have n0_ := Aside0.mk (Kd.R_below (Kd.R_elderB (by (with_reducible repeat (first | apply Kd.R_alloc | apply Kd.R_drewN | apply Kd.R_drew)); exact HO_3.out) gb115 (Nat.le_of_eq hg.symm)) hb); have n1_ := Aside0.mk (below_step (by repeat (first | (with_reducible first | exact HB.out | apply below_alloc | apply pw_below_drewN | apply below_drew1) | exact HB.out)) hb); have n2_ := Aside0.mk (hbox); have n3_ := Aside0.mk ((by rw [hg]; exact (below_size (by repeat (first | (with_reducible first | exact HB.out | apply below_alloc | apply pw_below_drewN | apply below_drew1) | exact HB.out))) : w.heap.size ≤ gb115)); have n4_ := Aside0.mk ((by rw [hg]; exact (below_size (by repeat (first | (with_reducible first | exact HB.out | apply below_alloc | apply pw_below_drewN | apply below_drew1) | exact HB.out))) : w.heap.size ≤ gb115)); clear HO_3; clear HB; have HO_3 := n0_; have HB := n1_; have BK115 := n2_; have GW115 := n3_; have GE115 := n4_; clear n0_ n1_ n2_ n3_ n4_; clear hb hbox hg; have hcz17_0 : w16.cell? ⟨gb115, 0, none⟩ = some (.int .i64 0) := (blk_cell BK115.out 0).trans rfl; have hcz17_1 : w16.cell? ⟨gb115, 1, none⟩ = some (.string (⟨#[]⟩ : ByteArray)) := (blk_cell BK115.out 1).trans rfl; have hcz17_2 : w16.cell? ⟨gb115, 2, none⟩ = some (.string (⟨#[]⟩ : ByteArray)) := (blk_cell BK115.out 2).trans rfl; have hfz17_0 := blk_frozen BK115.out 0; have hfz17_1 := blk_frozen BK115.out 1; have hfz17_2 := blk_frozen BK115.out 2))
                          have n0_ : Aside0 (Kd.R k35 35 (((w16.setCell ⟨gb115, 0, none⟩ (.int .i64 ((rd_T35 y110 x12_1).f0))).setCell ⟨gb115, 1, none⟩ (.string ((rd_T35 y110 x12_1).f1))).setCell ⟨gb115, 2, none⟩ (.string ((rd_T35 y110 x12_1).f2))) w.heap.size (fun k_ => k_ ≠ gb115) u3 x3_1) := ⟨by (with_reducible repeat (first | apply Kd.R_alloc | apply Kd.R_drewN | apply Kd.R_drew)); exact Kd.R_mono (Kd.R_far (p := ⟨gb115, 2, none⟩) (Kd.R_far (p := ⟨gb115, 1, none⟩) (Kd.R_far (p := ⟨gb115, 0, none⟩) (Kd.R_mono HO_3.out (fun k_ hk => (⟨hk, hk.2⟩ : _ ∧ k_ ≠ gb115))) (fun _ hk => hk.2) (.int .i64 ((rd_T35 y110 x12_1).f0))) (fun _ hk => hk.2) (.string ((rd_T35 y110 x12_1).f1))) (fun _ hk => hk.2) (.string ((rd_T35 y110 x12_1).f2))) (fun _ hk => hk.1.2)⟩
                          have n1_ : Aside0 ((((w16.setCell ⟨gb115, 0, none⟩ (.int .i64 ((rd_T35 y110 x12_1).f0))).setCell ⟨gb115, 1, none⟩ (.string ((rd_T35 y110 x12_1).f1))).setCell ⟨gb115, 2, none⟩ (.string ((rd_T35 y110 x12_1).f2))).heap[gb115]? = some (.cells #[.int .i64 ((rd_T35 y110 x12_1).f0), .string ((rd_T35 y110 x12_1).f1), .string ((rd_T35 y110 x12_1).f2)] 35 (0, 0))) := ⟨by (with_reducible repeat (first | refine blk_drewN ?_ _ | refine blk_drew ?_ | refine blk_alloc ?_ _)); refine blk_put (cs := #[.int .i64 ((rd_T35 y110 x12_1).f0), .string ((rd_T35 y110 x12_1).f1), .string (⟨#[]⟩ : ByteArray)]) ?_ 2 _ rfl; (with_reducible repeat (first | refine blk_drewN ?_ _ | refine blk_drew ?_ | refine blk_alloc ?_ _)); refine blk_put (cs := #[.int .i64 ((rd_T35 y110 x12_1).f0), .string (⟨#[]⟩ : ByteArray), .string (⟨#[]⟩ : ByteArray)]) ?_ 1 _ rfl; (with_reducible repeat (first | refine blk_drewN ?_ _ | refine blk_drew ?_ | refine blk_alloc ?_ _)); refine blk_put (cs := #[.int .i64 0, .string (⟨#[]⟩ : ByteArray), .string (⟨#[]⟩ : ByteArray)]) ?_ 0 _ rfl; (with_reducible repeat (first | refine blk_drewN ?_ _ | refine blk_drew ?_ | refine blk_alloc ?_ _)); exact BK115.out⟩
                          have n2_ : Aside0 (Below w.heap.size w (((w16.setCell ⟨gb115, 0, none⟩ (.int .i64 ((rd_T35 y110 x12_1).f0))).setCell ⟨gb115, 1, none⟩ (.string ((rd_T35 y110 x12_1).f1))).setCell ⟨gb115, 2, none⟩ (.string ((rd_T35 y110 x12_1).f2)))) := ⟨by repeat (first | (with_reducible first | exact HB.out | apply below_alloc | apply pw_below_drewN | apply below_drew1 | refine below_set ?_ GE115.out) | exact HB.out)⟩
                          (try clear HO_3)
                          (try clear BK115)
                          (try clear HB)
                          generalize (((w16.setCell ⟨gb115, 0, none⟩ (.int .i64 ((rd_T35 y110 x12_1).f0))).setCell ⟨gb115, 1, none⟩ (.string ((rd_T35 y110 x12_1).f1))).setCell ⟨gb115, 2, none⟩ (.string ((rd_T35 y110 x12_1).f2))) = w18 at n0_ n1_ n2_ ⊢
                          have HO_3 := n0_
                          have BK115 := n1_
                          have HB := n2_
                          clear n0_ n1_ n2_
                          have n0_ := Aside0.mk (Kd.R_drew HO_3.out)
                          have n1_ := Aside0.mk (blk_drew BK115.out)
                          have n2_ := Aside0.mk (below_drew1 HB.out)
                          clear HO_3
                          clear BK115
                          clear HB
                          have HO_3 := n0_
                          have BK115 := n1_
                          have HB := n2_
                          clear n0_ n1_ n2_
                          refine start_ (n := 21) (S := fun w' => w'.cell? ⟨gb115, 0, none⟩ = some (.int .i64 ((rd_T35 y110 x12_1).f0)) ∧ w'.cell? ⟨gb115, 1, none⟩ = some (.string ((rd_T35 y110 x12_1).f1)) ∧ w'.cell? ⟨gb115, 2, none⟩ = some (.string ((rd_T35 y110 x12_1).f2))) (ds := []) #[false, false, false, false, false, false, false, false, false, false, false, false, false, false, false, false, false, false, false, false, false] (by kernel_rfl) rfl rfl ⟨(blk_cell BK115.out 0).trans rfl, (blk_cell BK115.out 1).trans rfl, (blk_cell BK115.out 2).trans rfl⟩ (fun hHeld => ?_); refine with_tabW foghornlaw10_asked.tab5 foghornlaw10_asked.bits5 (fun HT_ HW_ => ?_)
                          generalize w18.drew = w19 at HO_3 BK115 HB hHeld ⊢
                          refine pure_ (i := 0) (N := some 16) (v := ?_) (a' := ?_) #[true, false, false, false, false, false, false, false, false, false, false, false, false, false, false, false, false, false, false, false, false] rfl rfl (any_of HT_.out (by kernel_rfl)) (fun _ _ _ h => h) (Or.inl ⟨by rfl, ?_⟩) ?_ ?_
                          rotate_left
                          · intro w'
                            go_simp
                            with_reducible rfl
                          rotate_left
                          · simp only [Act.put, List.setIfInBounds_toArray, List.set_cons_zero, List.set_cons_succ, i64_w, i32_w]
                            rfl
                          refine pure_ (i := 1) (N := some 17) (v := ?_) (a' := ?_) #[true, true, false, false, false, false, false, false, false, false, false, false, false, false, false, false, false, false, false, false, false] rfl rfl (any_of HT_.out (by kernel_rfl)) (fun _ _ _ h => h) (Or.inl ⟨by rfl, ?_⟩) ?_ ?_
                          rotate_left
                          · intro w'
                            go_simp
                            with_reducible rfl
                          rotate_left
                          · simp only [Act.put, List.setIfInBounds_toArray, List.set_cons_zero, List.set_cons_succ, i64_w, i32_w]
                            rfl
                          refine pure_ (i := 3) (N := some 19) (v := ?_) (a' := ?_) #[true, true, false, true, false, false, false, false, false, false, false, false, false, false, false, false, false, false, false, false, false] rfl rfl (any_of HT_.out (by kernel_rfl)) (fun _ _ _ h => h) (Or.inl ⟨by rfl, ?_⟩) ?_ ?_
                          rotate_left
                          · intro w'
                            go_simp
                            with_reducible rfl
                          rotate_left
                          · simp only [Act.put, List.setIfInBounds_toArray, List.set_cons_zero, List.set_cons_succ, i64_w, i32_w]
                            rfl
                          refine pure_ (i := 5) (N := some 21) (v := ?_) (a' := ?_) #[true, true, false, true, false, true, false, false, false, false, false, false, false, false, false, false, false, false, false, false, false] rfl rfl (any_of HT_.out (by kernel_rfl)) (fun _ _ _ h => h) (Or.inl ⟨by rfl, ?_⟩) ?_ ?_
                          rotate_left
                          · intro w'
                            go_simp
                            with_reducible rfl
                          rotate_left
                          · simp only [Act.put, List.setIfInBounds_toArray, List.set_cons_zero, List.set_cons_succ, i64_w, i32_w]
                            rfl
                          refine pure_ (i := 10) (N := some 26) (v := ?_) (a' := ?_) #[true, true, false, true, false, true, false, false, false, false, true, false, false, false, false, false, false, false, false, false, false] rfl rfl (any_of HT_.out (by kernel_rfl)) (fun _ _ _ h => h) (Or.inl ⟨by rfl, ?_⟩) ?_ ?_
                          rotate_left
                          · intro w'
                            go_simp
                            with_reducible rfl
                          rotate_left
                          · simp only [Act.put, List.setIfInBounds_toArray, List.set_cons_zero, List.set_cons_succ, i64_w, i32_w]
                            rfl
                          refine pure_ (i := 12) (N := some 28) (v := ?_) (a' := ?_) #[true, true, false, true, false, true, false, false, false, false, true, false, true, false, false, false, false, false, false, false, false] rfl rfl (any_of HT_.out (by kernel_rfl)) (fun _ _ _ h => h) (Or.inl ⟨by rfl, ?_⟩) ?_ ?_
                          rotate_left
                          · intro w'
                            go_simp
                            with_reducible rfl
                          rotate_left
                          · simp only [Act.put, List.setIfInBounds_toArray, List.set_cons_zero, List.set_cons_succ, i64_w, i32_w]
                            rfl
                          refine take_ (i := 2) (N := some 18) (v := ?_) (a' := ?_) #[true, true, true, true, false, true, false, false, false, false, true, false, true, false, false, false, false, false, false, false, false] rfl rfl (take_ofW HT_.out HW_.out (by kernel_rfl)) (fun _ _ _ h => h) (Or.inl ⟨by rfl, ?_⟩) hHeld ?_ ?_
                          rotate_left
                          · rintro w' ⟨s0, s1, s2⟩
                            go_simp
                            with_reducible rfl
                          rotate_left
                          · simp only [Act.put, List.setIfInBounds_toArray, List.set_cons_zero, List.set_cons_succ, i64_w, i32_w]
                            rfl
                          refine take_ (i := 4) (N := some 20) (v := ?_) (a' := ?_) #[true, true, true, true, true, true, false, false, false, false, true, false, true, false, false, false, false, false, false, false, false] rfl rfl (take_ofW HT_.out HW_.out (by kernel_rfl)) (fun _ _ _ h => h) (Or.inl ⟨by rfl, ?_⟩) hHeld ?_ ?_
                          rotate_left
                          · rintro w' ⟨s0, s1, s2⟩
                            go_simp
                            with_reducible rfl
                          rotate_left
                          · simp only [Act.put, List.setIfInBounds_toArray, List.set_cons_zero, List.set_cons_succ, i64_w, i32_w]
                            rfl
                          refine take_ (i := 6) (N := some 22) (v := ?_) (a' := ?_) #[true, true, true, true, true, true, true, false, false, false, true, false, true, false, false, false, false, false, false, false, false] rfl rfl (take_ofW HT_.out HW_.out (by kernel_rfl)) (fun _ _ _ h => h) (Or.inl ⟨by rfl, ?_⟩) hHeld ?_ ?_
                          rotate_left
                          · rintro w' ⟨s0, s1, s2⟩
                            go_simp
                            with_reducible rfl
                          rotate_left
                          · simp only [Act.put, List.setIfInBounds_toArray, List.set_cons_zero, List.set_cons_succ, i64_w, i32_w]
                            rfl
                          refine pure_ (i := 7) (N := some 23) (v := ?_) (a' := ?_) #[true, true, true, true, true, true, true, true, false, false, true, false, true, false, false, false, false, false, false, false, false] rfl rfl (any_of HT_.out (by kernel_rfl)) (fun _ _ _ h => h) (Or.inl ⟨by rfl, ?_⟩) ?_ ?_
                          rotate_left
                          · intro w'
                            go_simp
                            with_reducible rfl
                          rotate_left
                          · simp only [Act.put, List.setIfInBounds_toArray, List.set_cons_zero, List.set_cons_succ, i64_w, i32_w]
                            rfl
                          refine pure_ (i := 8) (N := some 24) (v := ?_) (a' := ?_) #[true, true, true, true, true, true, true, true, true, false, true, false, true, false, false, false, false, false, false, false, false] rfl rfl (any_of HT_.out (by kernel_rfl)) (fun _ _ _ h => h) (Or.inl ⟨by rfl, ?_⟩) ?_ ?_
                          rotate_left
                          · intro w'
                            go_simp
                            with_reducible rfl
                          rotate_left
                          · simp only [Act.put, List.setIfInBounds_toArray, List.set_cons_zero, List.set_cons_succ, i64_w, i32_w]
                            rfl
                          refine pure_ (i := 9) (N := some 25) (v := ?_) (a' := ?_) #[true, true, true, true, true, true, true, true, true, true, true, false, true, false, false, false, false, false, false, false, false] rfl rfl (any_of HT_.out (by kernel_rfl)) (fun _ _ _ h => h) (Or.inl ⟨by rfl, ?_⟩) ?_ ?_
                          rotate_left
                          · intro w'
                            go_simp
                            with_reducible rfl
                          rotate_left
                          · simp only [Act.put, List.setIfInBounds_toArray, List.set_cons_zero, List.set_cons_succ, i64_w, i32_w]
                            rfl
                          refine take_ (i := 11) (N := some 27) (v := ?_) (a' := ?_) #[true, true, true, true, true, true, true, true, true, true, true, true, true, false, false, false, false, false, false, false, false] rfl rfl (take_ofW HT_.out HW_.out (by kernel_rfl)) (fun _ _ _ h => h) (Or.inl ⟨by rfl, ?_⟩) hHeld ?_ ?_
                          rotate_left
                          · rintro w' ⟨s0, s1, s2⟩
                            go_simp
                            with_reducible rfl
                          rotate_left
                          · simp only [Act.put, List.setIfInBounds_toArray, List.set_cons_zero, List.set_cons_succ, i64_w, i32_w]
                            rfl
                          refine take_ (i := 13) (N := some 29) (v := ?_) (a' := ?_) #[true, true, true, true, true, true, true, true, true, true, true, true, true, true, false, false, false, false, false, false, false] rfl rfl (take_ofW HT_.out HW_.out (by kernel_rfl)) (fun _ _ _ h => h) (Or.inl ⟨by rfl, ?_⟩) hHeld ?_ ?_
                          rotate_left
                          · rintro w' ⟨s0, s1, s2⟩
                            go_simp
                            with_reducible rfl
                          rotate_left
                          · simp only [Act.put, List.setIfInBounds_toArray, List.set_cons_zero, List.set_cons_succ, i64_w, i32_w]
                            rfl
                          refine pure_ (i := 14) (N := some 30) (v := ?_) (a' := ?_) #[true, true, true, true, true, true, true, true, true, true, true, true, true, true, true, false, false, false, false, false, false] rfl rfl (any_of HT_.out (by kernel_rfl)) (fun _ _ _ h => h) (Or.inl ⟨by rfl, ?_⟩) ?_ ?_
                          rotate_left
                          · intro w'
                            go_simp
                            with_reducible rfl
                          rotate_left
                          · simp only [Act.put, List.setIfInBounds_toArray, List.set_cons_zero, List.set_cons_succ, i64_w, i32_w]
                            rfl
                          refine pure_ (i := 15) (N := some 31) (v := ?_) (a' := ?_) #[true, true, true, true, true, true, true, true, true, true, true, true, true, true, true, true, false, false, false, false, false] rfl rfl (any_of HT_.out (by kernel_rfl)) (fun _ _ _ h => h) (Or.inl ⟨by rfl, ?_⟩) ?_ ?_
                          rotate_left
                          · intro w'
                            go_simp
                            with_reducible rfl
                          rotate_left
                          · simp only [Act.put, List.setIfInBounds_toArray, List.set_cons_zero, List.set_cons_succ, i64_w, i32_w]
                            rfl
                          refine pure_ (i := 16) (N := some 32) (v := ?_) (a' := ?_) #[true, true, true, true, true, true, true, true, true, true, true, true, true, true, true, true, true, false, false, false, false] rfl rfl (any_of HT_.out (by kernel_rfl)) (fun _ _ _ h => h) (Or.inl ⟨by rfl, ?_⟩) ?_ ?_
                          rotate_left
                          · intro w'
                            go_simp
                            with_reducible rfl
                          rotate_left
                          · simp only [Act.put, List.setIfInBounds_toArray, List.set_cons_zero, List.set_cons_succ, i64_w, i32_w]
                            rfl
                          refine pure_ (i := 17) (N := some 33) (v := ?_) (a' := ?_) #[true, true, true, true, true, true, true, true, true, true, true, true, true, true, true, true, true, true, false, false, false] rfl rfl (any_of HT_.out (by kernel_rfl)) (fun _ _ _ h => h) (Or.inl ⟨by rfl, ?_⟩) ?_ ?_
                          rotate_left
                          · intro w'
                            go_simp
                            with_reducible rfl
                          rotate_left
                          · simp only [Act.put, List.setIfInBounds_toArray, List.set_cons_zero, List.set_cons_succ, i64_w, i32_w]
                            rfl
                          refine one_ (i := 18) (N := some 34) #[true, true, true, true, true, true, true, true, true, true, true, true, true, true, true, true, true, true, true, false, false] rfl rfl (one_of HT_.out (by kernel_rfl)) (by decide) (fun K hK => ?_)
                          refine value_ (w1 := ?_) (v := ?_) (by rfl) rfl ?_ ?_
                          rotate_left 2
                          · go_simp
                            constructor
                            · rfl
                            · rfl
                          refine hK.out _ _ ⟨(blk_cell (blk_alloc BK115.out _) 0).trans rfl, (blk_cell (blk_alloc BK115.out _) 1).trans rfl, (blk_cell (blk_alloc BK115.out _) 2).trans rfl⟩ (fun hHeld => ?_)
                          clear hK K
                          refine norm_ (a' := ?_) ?_ ?_
                          rotate_left
                          · show Act.put _ (some 34) _ = _
                            simp only [Act.put, List.setIfInBounds_toArray, List.set_cons_zero, List.set_cons_succ, i64_w, i32_w]
                            rfl
                          refine one_ (i := 19) (N := some 35) #[true, true, true, true, true, true, true, true, true, true, true, true, true, true, true, true, true, true, true, true, false] rfl rfl (one_of HT_.out (by kernel_rfl)) (by decide) (fun K hK => ?_)
                          refine Kd.R_append_step k35 (w0 := w) w.heap.size (by rfl) (.tmp 16) (.tmp 34) 23 35 (.agg #[(.int .i64 0), (.string ⟨#[]⟩), (.string ⟨#[]⟩)]) 40 rfl Try.underlying23 info35 rfl (by decide) (by omega) u3 x3_1 (⟨(rd_T35 y110 x12_1).f0, ((rd_T35 y110 x12_1).f1).extract 0 ((ji9) : Int).toNat, ((rd_T35 y110 x12_1).f2).extract 0 ((ji12) : Int).toNat⟩ : S35) [.int .i64 ((rd_T35 y110 x12_1).f0), .string (((rd_T35 y110 x12_1).f1).extract 0 ((ji9) : Int).toNat), .string (((rd_T35 y110 x12_1).f2).extract 0 ((ji12) : Int).toNat)] (fun k_ => k_ ≠ gb115) (fun _ => False) rfl rfl ?aP (fun _ hk => hk.elim) ?aF ?aO ?aB ?aS ?aL ?_
                          (case aP => exact k35_mkM _ _ _ (⟨(rd_T35 y110 x12_1).f0, ((rd_T35 y110 x12_1).f1).extract 0 ((ji9) : Int).toNat, ((rd_T35 y110 x12_1).f2).extract 0 ((ji12) : Int).toNat⟩ : S35))
                          (case aB => exact (by repeat (first | (with_reducible first | exact HB.out | apply below_alloc | apply pw_below_drewN | apply below_drew1 | refine below_set ?_ GE115.out) | exact HB.out)))
                          (case aF => exact (fun k_ hk => Kd.freshB (g := gb115) (o := .cells #[.int .i64 ((rd_T35 y110 x12_1).f0), .string ((rd_T35 y110 x12_1).f1), .string ((rd_T35 y110 x12_1).f2)] 35 (0, 0)) (by (with_reducible repeat (first | refine blk_drewN ?_ _ | refine blk_drew ?_ | refine blk_alloc ?_ _)); exact BK115.out) k_ hk))
                          (case aO => exact (by (with_reducible repeat (first | apply Kd.R_alloc | apply Kd.R_drewN | apply Kd.R_drew)); exact HO_3.out))
                          (case aS => exact (below_size (by repeat (first | (with_reducible first | exact HB.out | apply below_alloc | apply pw_below_drewN | apply below_drew1 | refine below_set ?_ GE115.out) | exact HB.out))))
                          (case aL => have := LMc15.out; omega)
                          intro v117 w20 ho hb hg hat
                          rw [← Ny116.out] at ho
                          have n0_ := Aside0.mk (blk_grown (g := gb115) (o := .cells #[.int .i64 ((rd_T35 y110 x12_1).f0), .string ((rd_T35 y110 x12_1).f1), .string ((rd_T35 y110 x12_1).f2)] 35 (0, 0)) (by (with_reducible repeat (first | refine blk_drewN ?_ _ | refine blk_drew ?_ | refine blk_alloc ?_ _)); exact BK115.out) hg (Kd.R_away HO_3.out (fun _ hk => hk)))
                          have n1_ := Aside0.mk (hb)
                          have n2_ := Aside0.mk (ho)
                          clear BK115
                          clear HB
                          clear HO_3
                          have BK115 := n0_
                          have HB := n1_
                          have HO118 := n2_
                          clear n0_ n1_ n2_
                          clear ho hb hg hat
                          refine hK.out _ _ ⟨(blk_cell BK115.out 0).trans rfl, (blk_cell BK115.out 1).trans rfl, (blk_cell BK115.out 2).trans rfl⟩ (fun hHeld => ?_)
                          clear hK K
                          refine norm_ (a' := ?_) ?_ ?_
                          rotate_left
                          · show Act.put _ (some 35) _ = _
                            simp only [Act.put, List.setIfInBounds_toArray, List.set_cons_zero, List.set_cons_succ, i64_w, i32_w]
                            rfl
                          refine pure_ (i := 20) (N := some 3) (v := ?_) (a' := ?_) #[true, true, true, true, true, true, true, true, true, true, true, true, true, true, true, true, true, true, true, true, true] rfl rfl (any_of HT_.out (by kernel_rfl)) (fun _ _ _ h => h) (Or.inl ⟨by rfl, ?_⟩) ?_ ?_
                          rotate_left
                          · intro w'
                            go_simp
                            with_reducible rfl
                          rotate_left
                          · simp only [Act.put, List.setIfInBounds_toArray, List.set_cons_zero, List.set_cons_succ, i64_w, i32_w]
                            rfl
                          refine done_ (done_of HT_.out (by kernel_rfl)) ?_
                          try go_wp2
                          go_roundg k1
                          case measure => have := HK1.out; omega
                          case rel => exact ⟨(y116), (wrap64 (x12_1 + 1)), (by first | rfl | (simp; done) | (simp [*]; done)), H', ⟨by have := HK1.out; omega⟩, ⟨by (with_reducible repeat (first | apply Kd.R_alloc | apply Kd.R_drewN | apply Kd.R_drew)); exact Kd.R_mono HO118.out (fun _ hk => trivial)⟩, ⟨by repeat (first | (with_reducible first | exact HB.out | apply below_alloc | apply pw_below_drewN | apply below_drew1 | refine below_set ?_ GE115.out) | exact HB.out)⟩⟩
                        · rw [if_neg c15] at H
                          exact absurd H (by simp)
                      · rw [if_neg c14] at H
                        exact absurd H (by simp)
                    · rw [if_neg c13] at H
                      exact absurd H (by simp)
                  · rw [if_neg c11] at H
                    exact absurd H (by simp)
                · rw [if_neg c10] at H
                  exact absurd H (by simp)
              · rw [if_neg c8] at H
                exact absurd H (by simp)
            · rw [if_neg c7] at H
              exact absurd H (by simp)
          · rw [if_neg c6] at H
            have c6b0 : decide (x12_1 < (y110.length : Int)) = false := decide_eq_false c6
            clear c6
            obtain rfl := Option.some.inj H
            go_wp2
            go_ret
            exact ⟨_, by first | rfl | (simp [errW_none, errW_some] <;> rfl) | (simp only [← hji2]; first | rfl | (simp [errW_none, errW_some] <;> rfl)) | (simp [*, errW_none, errW_some] <;> rfl), by (with_reducible repeat (first | apply Kd.R_alloc | apply Kd.R_drewN | apply Kd.R_drew)); exact HO_3.out, by repeat (first | (with_reducible first | exact HB.out | apply below_alloc | apply pw_below_drewN | apply below_drew1) | exact HB.out)⟩
    · rw [if_neg c4] at H
      exact absurd H (by simp)
  · rw [if_neg c3] at H
    exact absurd H (by simp)


-- by hand: label_Sort


-- by hand: label_All


-- by hand: foghornref10_each

end Go.Proofs.YtndgollcganhmaaQ.P
/- Plain facts on worlds: blocks, cells, what stays. No program in sight. -/
namespace Go.Proofs.Ytndgollcganhmaa
open Go.RowKit
section
variable {W W' w w1 w2 : World} {g j : Nat} {cs : Array Value} {T : TypeId} {fr : Nat × Nat} {v : Value}
theorem blk_new (W : World) (o : Obj) : (W.alloc o).heap[W.heap.size]? = some o := heap_alloc_new W o
theorem blk_lt {o : Obj} (h : W.heap[g]? = some o) : g < W.heap.size := (Array.getElem?_eq_some_iff.1 h).1
theorem blk_cell (h : W.heap[g]? = some (.cells cs T fr)) (hv : cs[j]? = some v) : W.cell? ⟨g, j, none⟩ = some v := by
  simp [World.cell?, h, hv]
theorem blk_free (h : W.heap[g]? = some (.cells cs T (0, 0))) (j : Nat) : W.frozen? ⟨g, j, none⟩ = false := by
  simp [World.frozen?, h]
theorem blk_below {B : Nat} (hb : Below B W W') (hg : g < B) {o : Obj} (h : W.heap[g]? = some o) : W'.heap[g]? = some o := (hb.block g hg).trans h
theorem blk_alloc (o' : Obj) {o : Obj} (h : W.heap[g]? = some o) : (W.alloc o').heap[g]? = some o := (Below.heap_alloc W o' g (blk_lt h)).trans h
theorem size_alloc (W : World) (o : Obj) : (W.alloc o).heap.size = W.heap.size + 1 := by simp
theorem blk_new2 (W : World) (o1 o2 : Obj) : ((W.alloc o1).alloc o2).heap[W.heap.size + 1]? = some o2 := by
  have := blk_new (W.alloc o1) o2
  rwa [size_alloc] at this
theorem blk_new1 (W : World) (o1 o2 : Obj) : ((W.alloc o1).alloc o2).heap[W.heap.size]? = some o1 := (Below.heap_alloc (W.alloc o1) o2 W.heap.size (by rw [size_alloc]; omega)).trans (blk_new W o1)
theorem cell_alloc2 (W : World) (o1 o2 : Obj) {b j : Nat} (hb : b < W.heap.size) : ((W.alloc o1).alloc o2).cell? ⟨b, j, none⟩ = W.cell? ⟨b, j, none⟩ :=
  World.cell?_of_block ((Below.heap_alloc (W.alloc o1) o2 b (by rw [size_alloc]; omega)).trans (Below.heap_alloc W o1 b hb))
theorem blk_call (hb : Below W.heap.size W W') {o : Obj} (h : W.heap[g]? = some o) : W'.heap[g]? = some o := blk_below hb (blk_lt h) h
theorem blk_set (h : W.heap[g]? = some (.cells cs T fr)) (j : Nat) (v : Value) : (W.setCell ⟨g, j, none⟩ v).heap[g]? = some (.cells (cs.setIfInBounds j v) T fr) := by
  simp [World.setCell, Array.getElem?_modify, h]
theorem blk_set_far {o : Obj} (h : W.heap[g]? = some o) {a : Addr} (ha : g ≠ a.block) (v : Value) : (W.setCell a v).heap[g]? = some o := (Below.heap_setCell W a v g ha).trans h
theorem bel {w w1 w2 : World} (h : Below w.heap.size w w1) (k : Below w1.heap.size w1 w2) : Below w.heap.size w w2 := h.trans ⟨k.os, k.tape, k.output, k.size, fun i hi => k.block i (Nat.lt_of_lt_of_le hi h.size)⟩
theorem bels {B : Nat} {w w1 w2 : World} (h : Below B w w1) (hB : B ≤ w1.heap.size) (k : Below w1.heap.size w1 w2) : Below B w w2 := h.trans ⟨k.os, k.tape, k.output, k.size, fun i hi => k.block i (Nat.lt_of_lt_of_le hi hB)⟩
theorem bcell {W w1 : World} (hb : Below W.heap.size W w1) : (∀ b o, b < W.heap.size → w1.cell? ⟨b, o, none⟩ = W.cell? ⟨b, o, none⟩) ∧ (∀ b o, b < W.heap.size → w1.frozen? ⟨b, o, none⟩ = W.frozen? ⟨b, o, none⟩) :=
  ⟨fun b o h => hb.cell (p := ⟨b, o, none⟩) h, fun b o h => hb.frozen (p := ⟨b, o, none⟩) h⟩
theorem bal {w w1 : World} (h : Below w.heap.size w w1) (o : Obj) : Below w.heap.size w (w1.alloc o) := h.alloc h.size o
theorem size_lt {B n : Nat} {w w1 : World} (h : Below B w w1) (hn : n < w.heap.size) : n < w1.heap.size := Nat.lt_of_lt_of_le hn h.size
theorem bset {B : Nat} {a w : World} (h : Below B a w) {p : Addr} (hp : B ≤ p.block) (u : Value) : Below B a (w.setCell p u) := h.setCell hp u
theorem bdn {B : Nat} {a w : World} (h : Below B a w) (n : Nat) : Below B a (w.drewN n) := h.trans ⟨rfl, rfl, rfl, Nat.le_refl _, fun _ _ => rfl⟩
theorem bytes_below {B : Nat} {a w : World} (h : Below B a w) (hB : B ≤ w.heap.size) (e : TypeId) (s : ByteArray) : Below B a (Lib.bytesWorld w e s) :=
  h.trans ⟨rfl, rfl, rfl, by rw [Lib.bytesWorld_size]; omega, fun k hk => Lib.bytesWorld_at_old w e s k (by omega)⟩
theorem bytes_free (W : World) (e : TypeId) (t : ByteArray) (j : Nat) (hj : j < t.size) : (Lib.bytesWorld W e t).frozen? ⟨W.heap.size, j, none⟩ = false := by
  have hsz : t.size ≤ (Lib.bytesCells W e t).size := by
    unfold Lib.bytesCells
    rw [Array.size_append, Array.size_map]
    exact Nat.le_add_right _ _
  simp only [World.frozen?, Lib.bytesWorld_at_new]
  rw [Bool.and_eq_false_iff]
  left
  simp only [decide_eq_false_iff_not]
  omega
theorem cell_set_same (h : (W.cell? ⟨g, j, none⟩).isSome = true) (v : Value) : (W.setCell ⟨g, j, none⟩ v).cell? ⟨g, j, none⟩ = some v := World.cell?_setCell_same' W _ v h
theorem cell_set_other (W : World) {a b : Addr} (h : b ≠ a) (ha : b.spot = none) (hb : a.spot = none) (v : Value) : (W.setCell a v).cell? b = W.cell? b := by
  obtain ⟨g, j, s⟩ := a
  obtain ⟨g', j', s'⟩ := b
  simp only at ha hb
  subst ha hb
  simp only [World.cell?, World.setCell, Array.getElem?_modify]
  by_cases hg : g = g'
  · subst hg
    have hj : j ≠ j' := fun e => h (by rw [e])
    cases hh : W.heap[g]? with
    | none => simp [hh]
    | some o => cases o <;> simp [hh, Array.getElem?_setIfInBounds, hj]
  · simp [hg]
theorem frozen_set (W : World) (a b : Addr) (v : Value) : (W.setCell a v).frozen? b = W.frozen? b := by
  simp only [World.frozen?, World.setCell, Array.getElem?_modify]
  by_cases hg : a.block = b.block
  · rw [hg]
    cases hh : W.heap[b.block]? with
    | none => simp [hh]
    | some o => cases o <;> simp [hh]
  · simp [hg]
end
theorem ret_int {k : IntKind} {a b : Int} (h : a = b) : Ending.returned (.int k a) = .returned (.int k b) := by rw [h]
theorem ret_str {a b : ByteArray} (h : a = b) : Ending.returned (.string a) = .returned (.string b) := by rw [h]
theorem ret_bool {a b : Bool} (h : a = b) : Ending.returned (.bool a) = .returned (.bool b) := by rw [h]
theorem len_data (t : ByteArray) : t.data.toList.length = t.size := by rw [Array.length_toList]; rfl
theorem bytes_of_eq {a b : ByteArray} (h : (a.toList == b.toList) = true) : a = b := by
  rw [ByteArray.toList_eq, ByteArray.toList_eq] at h
  apply ByteArray.ext
  exact Array.toList_inj.1 (by simpa using h)
theorem bytes_ne {a b : ByteArray} (h : a ≠ b) : (a.toList == b.toList) = false := by
  cases e : (a.toList == b.toList)
  · rfl
  · exact absurd (bytes_of_eq e) h
theorem bytes_eq_self (a : ByteArray) : (a.toList == a.toList) = true := by simp
theorem ext0_all (s : ByteArray) (n : Nat) (h : s.size ≤ n) : s.extract 0 n = s := by
  apply ByteArray.ext
  rw [ByteArray.data_extract]
  apply Array.extract_eq_self_of_le
  exact h
end Go.Proofs.Ytndgollcganhmaa
/- Slices that are read: their elements lie as cells, one behind the other. No program in sight. -/
namespace Go.Proofs.Ytndgollcganhmaa
open Go.RowKit
/-- v is a slice of n elements of sz cells each; these are its cells. -/
def SlAt (W : World) (v : Value) (sz n : Nat) (cells : List Value) : Prop :=
  cells.length = n * sz ∧ ∃ a c, v = .slice a n c ∧ n ≤ c ∧ n ≤ maxLen ∧ (n = 0 ∨ ∃ b o, a = some ⟨b, o, none⟩ ∧ b < W.heap.size ∧ ∀ j u, cells[j]? = some u → W.cell? ⟨b, o + j, none⟩ = some u)
section
variable {W W' : World} {v : Value} {sz n : Nat} {cells : List Value}
theorem SlAt.stay (h : SlAt W v sz n cells) (hb : Below W.heap.size W W') : SlAt W' v sz n cells := by
  obtain ⟨hl, a, c, hv, h1, h2, h3⟩ := h
  refine ⟨hl, a, c, hv, h1, h2, ?_⟩
  rcases h3 with h3 | ⟨b, o, ha, hlt, hc⟩
  · exact .inl h3
  · exact .inr ⟨b, o, ha, Nat.lt_of_lt_of_le hlt hb.size, fun j u hu => (hb.cell (p := ⟨b, o + j, none⟩) hlt).trans (hc j u hu)⟩
theorem SlAt.form (h : SlAt W v sz n cells) : ∃ a c, v = .slice a n c ∧ n ≤ c ∧ n ≤ maxLen := by
  obtain ⟨_, a, c, hv, h1, h2, _⟩ := h
  exact ⟨a, c, hv, h1, h2⟩
theorem SlAt.nil (W : World) (sz : Nat) : SlAt W (.slice none 0 0) sz 0 [] := ⟨by simp, none, 0, rfl, Nat.le_refl _, Nat.zero_le _, .inl rfl⟩
theorem SlAt.le (h : SlAt W v sz n cells) : n ≤ maxLen := by
  obtain ⟨a, c, _, h1, h2⟩ := h.form
  omega
/-- The address of a slice that has an element, and its cells. -/
theorem SlAt.at {a : Option Addr} {c : Nat} (h : SlAt W (.slice a n c) sz n cells) (hn : 0 < n) : ∃ b o, a = some ⟨b, o, none⟩ ∧ b < W.heap.size ∧ ∀ j u, cells[j]? = some u → W.cell? ⟨b, o + j, none⟩ = some u := by
  obtain ⟨_, a', c', hv, _, _, h3⟩ := h
  injection hv with e1 e2 e3
  subst e1
  rcases h3 with h3 | h3
  · omega
  · exact h3
theorem SlAt.of_own {base : Nat} {e : TypeId} (h : W.ownsRow base e sz v n cells) (hm : n ≤ maxLen) : SlAt W v sz n cells := by
  rcases h.2 with ⟨hv, h0⟩ | ⟨g, cap, cur, hv, hb, hg, h1, h2, hs, ht⟩
  · subst h0
    exact ⟨h.1, none, 0, hv, Nat.le_refl _, Nat.zero_le _, .inl rfl⟩
  · refine ⟨h.1, some ⟨g, 0, none⟩, cap, hv, h1, hm, .inr ⟨g, 0, rfl, blk_lt hg, fun j u hu => ?_⟩⟩
    have := h.cells (g := g) (by rw [hv]; rfl) j u hu
    have hadd : (⟨g, 0, none⟩ : Addr).add j = ⟨g, 0 + j, none⟩ := by unfold Addr.add; split <;> simp_all
    rwa [hadd] at this
end
/-- A slice that lies in memory from a block on. -/
def FreshV (B : Nat) (v : Value) : Prop := ∀ b, v.ownBlock = some b → B ≤ b
theorem FreshV.mono {B B' : Nat} {v : Value} (h : FreshV B v) (hB : B' ≤ B) : FreshV B' v := fun b hb => Nat.le_trans hB (h b hb)
theorem FreshV.nil (B : Nat) (l c : Nat) : FreshV B (.slice none l c) := fun b hb => by simp [Value.ownBlock] at hb
theorem FreshV.of_own {W : World} {B : Nat} {e : TypeId} {v : Value} {sz n : Nat} {cells : List Value} (h : W.ownsRow B e sz v n cells) : FreshV B v := fun b hb => (h.lt b hb).1
theorem SlAt.store {W : World} {v : Value} {sz n : Nat} {cells : List Value} (h : SlAt W v sz n cells) {p : Addr} (hne : ∀ b, v.ownBlock = some b → b ≠ p.block) (u : Value) : SlAt (W.setCell p u) v sz n cells := by
  obtain ⟨hl, a, c, hv, h1, h2, h3⟩ := h
  refine ⟨hl, a, c, hv, h1, h2, ?_⟩
  rcases h3 with h3 | ⟨b, o, ha, hlt, hc⟩
  · exact .inl h3
  · refine .inr ⟨b, o, ha, by simpa [World.setCell] using hlt, fun j u' hu => ?_⟩
    have hb : b ≠ p.block := hne b (by rw [hv, ha]; rfl)
    have : (W.setCell p u).cell? ⟨b, o + j, none⟩ = W.cell? ⟨b, o + j, none⟩ := World.cell?_of_block (Below.heap_setCell W p u b hb)
    rw [this]
    exact hc j u' hu
theorem SlAt.alloc {W : World} {v : Value} {sz n : Nat} {cells : List Value} (h : SlAt W v sz n cells) (o : Obj) : SlAt (W.alloc o) v sz n cells := h.stay (bal (Below.refl _ _) _)
/-- Texts as cells. -/
def strs (xs : List ByteArray) : List Value := xs.map Value.string
theorem strs_len (xs : List ByteArray) : (strs xs).length = xs.length := by simp [strs]
theorem strs_get (xs : List ByteArray) (i : Nat) (h : i < xs.length) : (strs xs)[i]? = some (.string xs[i]) := by simp [strs, h]
/-- The first place of which something holds; -1: there is none. -/
def idxOf {α : Type} (p : α → Bool) (xs : List α) : Int := match xs.findIdx? p with | some i => i | none => -1
theorem idxOf_found {α : Type} {p : α → Bool} {xs : List α} {i : Nat} (h : i < xs.length) (hp : p xs[i] = true) (hn : ∀ j (hj : j < i), p (xs[j]'(by omega)) = false) : idxOf p xs = i := by
  unfold idxOf
  have : xs.findIdx? p = some i := by
    rw [List.findIdx?_eq_some_iff_getElem]
    exact ⟨h, hp, fun j hj => by simp [hn j hj]⟩
  rw [this]
theorem idxOf_none {α : Type} {p : α → Bool} {xs : List α} (hn : ∀ j (hj : j < xs.length), p xs[j] = false) : idxOf p xs = -1 := by
  unfold idxOf
  have : xs.findIdx? p = none := by
    rw [List.findIdx?_eq_none_iff]
    intro x hx
    obtain ⟨j, hj, rfl⟩ := List.mem_iff_getElem.1 hx
    exact hn j hj
  rw [this]
theorem idxOf_any {α : Type} (p : α → Bool) (xs : List α) : decide (0 ≤ idxOf p xs) = xs.any p := by
  unfold idxOf
  cases h : xs.findIdx? p with
  | none =>
    rw [List.findIdx?_eq_none_iff] at h
    have : xs.any p = false := by
      rw [List.any_eq_false]
      intro x hx
      simp [h x hx]
    rw [this]
    rfl
  | some i =>
    have : xs.any p = true := by
      rw [List.findIdx?_eq_some_iff_getElem] at h
      obtain ⟨hi, hp, _⟩ := h
      exact List.any_eq_true.2 ⟨_, List.getElem_mem hi, hp⟩
    rw [this]
    simp
/-! ### disks -/
def badSize (x : ByteArray) : Bool := (x.size : Int) != 128
def rightD (xs : List ByteArray) : Bool := decide (10 ≤ xs.length) && decide (xs.length ≤ 130) && !xs.any badSize
/-- Why a sector is not there; 0: it is. -/
def mayD (xs : List ByteArray) (i : Int) : Int := if rightD xs = false then 1 else if 0 ≤ i ∧ i < xs.length then 0 else 3
theorem mayD_no {xs : List ByteArray} (h : rightD xs = false) (i : Int) : mayD xs i = 1 := by unfold mayD; rw [if_pos h]
theorem mayD_in {xs : List ByteArray} (h : rightD xs = true) {i : Int} (h0 : 0 ≤ i) (h1 : i < xs.length) : mayD xs i = 0 := by unfold mayD; rw [if_neg (by simp [h]), if_pos ⟨h0, h1⟩]
theorem mayD_out {xs : List ByteArray} (h : rightD xs = true) {i : Int} (h0 : i < 0 ∨ xs.length ≤ i) : mayD xs i = 3 := by unfold mayD; rw [if_neg (by simp [h]), if_neg (by omega)]
def readD (xs : List ByteArray) (i : Int) : ByteArray := if mayD xs i = 0 then xs.getD i.toNat ByteArray.empty else ⟨#[]⟩
theorem mayD_zero {xs : List ByteArray} {i : Int} (h : mayD xs i = 0) : rightD xs = true ∧ 0 ≤ i ∧ i < xs.length := by
  unfold mayD at h
  split at h
  · omega
  · rename_i h1
    split at h
    · rename_i h2
      exact ⟨by simpa using h1, h2⟩
    · omega
theorem mayD_cases (xs : List ByteArray) (i : Int) : mayD xs i = 0 ∨ mayD xs i = 1 ∨ mayD xs i = 3 := by
  unfold mayD
  split
  · exact .inr (.inl rfl)
  · split
    · exact .inl rfl
    · exact .inr (.inr rfl)
theorem rightD_sizes {xs : List ByteArray} (h : rightD xs = true) : 10 ≤ xs.length ∧ xs.length ≤ 130 ∧ ∀ x ∈ xs, x.size = 128 := by
  unfold rightD at h
  simp only [Bool.and_eq_true, decide_eq_true_eq, Bool.not_eq_true', List.any_eq_false, Bool.not_eq_true] at h
  refine ⟨h.1.1, h.1.2, fun x hx => ?_⟩
  have := h.2 x hx
  unfold badSize at this
  simp at this
  omega
/-- One text over another one, as far as k. -/
def over (x t : ByteArray) (k : Nat) : ByteArray := ⟨(t.data.toList.take k ++ x.data.toList.drop k).toArray⟩
def tearE (xs : List ByteArray) (i : Int) (t : ByteArray) (k : Int) : Int :=
  if mayD xs i ≠ 0 then mayD xs i else if t.size ≠ 128 then 2 else if k < 0 ∨ 128 < k then 1 else 0
def tearL (xs : List ByteArray) (i : Int) (t : ByteArray) (k : Int) : List ByteArray :=
  if tearE xs i t k = 0 then xs.set i.toNat (over (xs.getD i.toNat ByteArray.empty) t k.toNat) else []
end Go.Proofs.Ytndgollcganhmaa
/- Laws for the walk over a slice that the call itself makes by append. No program in sight. -/
namespace Go.Proofs.Ytndgollcganhmaa
open Go.RowKit
section
variable {P : Program} {ops : Array Oper} {rest : List Oper} {o : Oper} {a : Act} {Q : Exit → Act → World → Prop} {K : Act → World → Prop} {W w0 w1 : World} {v : Value} {e : TypeId} {B n sz : Nat} {xs : List Value}
theorem row_block {k : Nat} (h : W.ownsRow B e sz v n xs) (hk : v.ownBlock = some k) : B ≤ k := (h.lt k hk).1
theorem row_drew (h : W.ownsRow B e sz v n xs) : W.drew.ownsRow B e sz v n xs := h
/-- What lies below the row's first block stays. -/
theorem keep_row {g : Nat} {ob : Obj} (hg : W.grownBy w1 v.ownBlock) (HO : W.ownsRow B e sz v n xs) (hlt : g < B) (h : W.heap[g]? = some ob) : w1.heap[g]? = some ob :=
  (hg.block g (blk_lt h) (fun hk => absurd (row_block HO hk.symm) (by omega))).trans h
theorem bel_row {b : Nat} (hb : Below b w0 W) (hbW : b ≤ W.heap.size) (HO : W.ownsRow B e sz v n xs) (hB : b ≤ B) (hg : W.grownBy w1 v.ownBlock) : Below b w0 w1 :=
  hb.grown hg hbW (fun k hk => Nat.le_trans hB (row_block HO hk))
theorem row_form (h : W.ownsRow B e sz v n xs) : ∃ A c, v = .slice A n c := by
  rcases h.2 with ⟨rfl, rfl⟩ | ⟨g, cap, cur, rfl, _⟩
  · exact ⟨none, 0, rfl⟩
  · exact ⟨_, cap, rfl⟩
theorem row_facts {g cap : Nat} (h : W.ownsRow B e sz (.slice (some ⟨g, 0, none⟩) n cap) n xs) : g < W.heap.size ∧ n ≤ cap ∧ cap ≤ maxLen := by
  rcases h.2 with ⟨hv, _⟩ | ⟨g', cap', cur, hv, _, hg, h1, h2, _⟩
  · cases hv
  · injection hv with e1 _ e3
    injection e1 with e1
    injection e1 with e1
    subst e1 e3
    exact ⟨blk_lt hg, h1, h2⟩
theorem row_store {p : Addr} (h : W.ownsRow B e sz v n xs) (hp : p.block < B) (u : Value) : (W.setCell p u).ownsRow B e sz v n xs := by
  refine ⟨h.1, ?_⟩
  rcases h.2 with h2 | ⟨g, cap, cur, rfl, hb, hg, r⟩
  · exact .inl h2
  · exact .inr ⟨g, cap, cur, rfl, hb, (Below.heap_setCell W p u g (by omega)).trans hg, r⟩
theorem row_bel {w2 : World} (h : W.ownsRow B e sz v n xs) (hb : Below W.heap.size W w2) : w2.ownsRow B e sz v n xs := by
  refine ⟨h.1, ?_⟩
  rcases h.2 with h2 | ⟨g, cap, cur, rfl, hb', hg, r⟩
  · exact .inl h2
  · exact .inr ⟨g, cap, cur, rfl, hb', blk_call hb hg, r⟩
theorem size_set (W : World) (p : Addr) (u : Value) : (W.setCell p u).heap.size = W.heap.size := by simp [World.setCell]
theorem row_empty (W : World) {H : Nat} (hH : W.heap.size = H) (h : B ≤ H) : (W.alloc (.cells #[] e)).ownsRow B e sz (.slice (some ⟨H, 0, none⟩) 0 0) 0 [] := by
  subst hH
  have := World.ownsRow_lit (base := B) (e := e) (size := sz) W #[] 0 h (Nat.zero_le _) (by simp)
  simpa using this
theorem run_app1 (t ty : TypeId) (z : Value) (bytes : Nat) (ht : P.underlying t = some (.slice e)) (hinfo : (P.info? e).map (fun i => (i.zero, i.size, i.bytes)) = some (some z, sz, bytes)) (hz : z.cells.size = sz) (hs0 : 0 < sz) (hb0 : 0 < bytes)
    (ys : List Value) (hys : ys.length = sz) (h1 : ∀ u ∈ ys, u.oneCell' = true) (HO : W.ownsRow B e sz v n xs) (hbase : B ≤ W.heap.size) (hl : (n + 1) * bytes ≤ 140737488355328) :
    ∃ g cap w1, (Builtin.append_ #[t, t] ty #[v, .slice (some ⟨W.heap.size, 0, none⟩) 1 1]).run P (W.alloc (.cells ys.toArray e)) = .ok (.slice (some ⟨g, 0, none⟩) (n + 1) cap) w1 ∧ w1.ownsRow B e sz (.slice (some ⟨g, 0, none⟩) (n + 1) cap) (n + 1) (xs ++ ys) ∧ B ≤ g ∧ g < w1.heap.size ∧ W.grownBy w1 v.ownBlock := by
  obtain ⟨i0, hi, hzz⟩ := Option.map_eq_some_iff.1 hinfo
  simp only [Prod.mk.injEq] at hzz
  obtain ⟨hz0, hz1, hz2⟩ := hzz
  have hlen : n + 1 ≤ 140737488355328 := Nat.le_trans (Nat.le_mul_of_pos_right _ hb0) hl
  obtain ⟨v1, w1, hr, hown, hg, _, hat⟩ := run_append_own_at (P := P) (W.alloc (.cells ys.toArray e)) B t ty e i0 z sz bytes ht hi hz0 hz1 hz2 hz hs0 v n xs (HO.alloc _) ⟨W.heap.size, 0, none⟩ 1 1 ys (by rw [hys]; simp)
    (by simpa using World.news_of_block (cs := ys.toArray) (t := e) (fr := (0, 0)) (heap_alloc_new W (.cells ys.toArray e))) h1 (by simp only [maxLen]; omega) hl (by simp; omega)
  obtain ⟨g, cap, rfl, h3, h4⟩ := hown.form (by omega)
  exact ⟨g, cap, w1, hr, hown, h3, h4, World.grownBy.trans (World.grownBy_alloc W _ _) hg⟩
/-- append(s, x): in a plain region. -/
theorem ev_app1 (hgd : o.guard = none) (s x : Operand) (t : TypeId) (ho : o.op = .call { callee := .builtin .append, args := #[s, x], argTypes := #[t, t] })
    (z : Value) (bytes : Nat) (ht : P.underlying t = some (.slice e)) (hinfo : (P.info? e).map (fun i => (i.zero, i.size, i.bytes)) = some (some z, sz, bytes)) (hz : z.cells.size = sz) (hs0 : 0 < sz) (hb0 : 0 < bytes)
    (ys : List Value) (hs : a.eval s = v) (hx : a.eval x = .slice (some ⟨W.heap.size, 0, none⟩) 1 1) (hys : ys.length = sz) (h1 : ∀ u ∈ ys, u.oneCell' = true) (HO : W.ownsRow B e sz v n xs) (hbase : B ≤ W.heap.size) (hl : (n + 1) * bytes ≤ 140737488355328)
    (h : ∀ g cap w1, Hid (w1.ownsRow B e sz (.slice (some ⟨g, 0, none⟩) (n + 1) cap) (n + 1) (xs ++ ys)) → B ≤ g → g < w1.heap.size → W.grownBy w1 v.ownBlock → wpList P ops Q rest (a.put o.dst (.slice (some ⟨g, 0, none⟩) (n + 1) cap)) w1) : wpList P ops Q (o :: rest) a (W.alloc (.cells ys.toArray e)) := by
  refine wpList_plain hgd fun K hK => ?_
  obtain ⟨g, cap, w1, hr, hown, hB, hlt, hg⟩ := run_app1 (P := P) t o.type z bytes ht hinfo hz hs0 hb0 ys hys h1 HO hbase hl
  unfold Oper.wp execOp
  simp only [ho, resolve, invoke, builtin, Sem.run_bind, Sem.run_pure, Result.andThen_ok, List.map_toArray, List.map_cons, List.map_nil, hs, hx, hr]
  exact hK _ _ (h g cap w1 hown hB hlt hg)
/-- append(s, x): as a step of a region that draws its order. -/
theorem st_app1 {E : Prop} (hgd : o.guard = none) (s x : Operand) (t : TypeId) (ho : o.op = .call { callee := .builtin .append, args := #[s, x], argTypes := #[t, t] })
    (z : Value) (bytes : Nat) (ht : P.underlying t = some (.slice e)) (hinfo : (P.info? e).map (fun i => (i.zero, i.size, i.bytes)) = some (some z, sz, bytes)) (hz : z.cells.size = sz) (hs0 : 0 < sz) (hb0 : 0 < bytes)
    (ys : List Value) (hs : a.eval s = v) (hx : a.eval x = .slice (some ⟨W.heap.size, 0, none⟩) 1 1) (hys : ys.length = sz) (h1 : ∀ u ∈ ys, u.oneCell' = true) (HO : W.ownsRow B e sz v n xs) (hbase : B ≤ W.heap.size) (hl : (n + 1) * bytes ≤ 140737488355328)
    (h : ∀ g cap w1, Hid (w1.ownsRow B e sz (.slice (some ⟨g, 0, none⟩) (n + 1) cap) (n + 1) (xs ++ ys)) → B ≤ g → g < w1.heap.size → W.grownBy w1 v.ownBlock → K (a.put o.dst (.slice (some ⟨g, 0, none⟩) (n + 1) cap)) w1) : if Region.wanted o (yielded ops a.tmps) = true then Oper.wp P o a (W.alloc (.cells ys.toArray e)) K Q else E := by
  have hw : Region.wanted o (yielded ops a.tmps) = true := by simp [Region.wanted, hgd]
  rw [if_pos hw]
  obtain ⟨g, cap, w1, hr, hown, hB, hlt, hg⟩ := run_app1 (P := P) t o.type z bytes ht hinfo hz hs0 hb0 ys hys h1 HO hbase hl
  unfold Oper.wp execOp
  simp only [ho, resolve, invoke, builtin, Sem.run_bind, Sem.run_pure, Result.andThen_ok, List.map_toArray, List.map_cons, List.map_nil, hs, hx, hr]
  exact h g cap w1 hown hB hlt hg
end
end Go.Proofs.Ytndgollcganhmaa
/- A world that has grown: what was there is as it was. The walk sees through it. No program in sight. -/
namespace Go.Proofs.Ytndgollcganhmaa
open Go.RowKit
/-- How a world has grown. -/
structure Ext (w : World) where
  W : World
  bel : Below w.heap.size w W
instance (w : World) : Nonempty (Ext w) := ⟨⟨w, Below.refl _ _⟩⟩
def ext (w : World) (x : Ext w) : World := x.W
def more {w : World} (x : Ext w) : Nat := x.W.heap.size - w.heap.size
def cellX {w : World} (x : Ext w) (a : Addr) : Option Value := x.W.cell? a
def frozenX {w : World} (x : Ext w) (a : Addr) : Bool := x.W.frozen? a
section
variable {w w1 W : World}
theorem ext_bel (w : World) (x : Ext w) : Below w.heap.size w (ext w x) := x.bel
theorem ext_of (h : Below w.heap.size w W) : ∃ x, W = ext w x := ⟨⟨W, h⟩, rfl⟩
theorem ext_size (x : Ext w) : (ext w x).heap.size = w.heap.size + more x := by
  have := x.bel.size
  unfold ext more
  omega
theorem ext_cell (x : Ext w) (b o : Nat) : (ext w x).cell? ⟨b, o, none⟩ = if b < w.heap.size then w.cell? ⟨b, o, none⟩ else cellX x ⟨b, o, none⟩ := by
  split
  · rename_i h
    exact x.bel.cell (p := ⟨b, o, none⟩) h
  · rfl
theorem ext_frozen (x : Ext w) (b o : Nat) : (ext w x).frozen? ⟨b, o, none⟩ = if b < w.heap.size then w.frozen? ⟨b, o, none⟩ else frozenX x ⟨b, o, none⟩ := by
  split
  · rename_i h
    exact x.bel.frozen (p := ⟨b, o, none⟩) h
  · rfl
theorem alloc_cell (W : World) (cs : Array Value) (T : TypeId) (fr : Nat × Nat) (b o : Nat) : (W.alloc (.cells cs T fr)).cell? ⟨b, o, none⟩ = if b < W.heap.size then W.cell? ⟨b, o, none⟩ else if b = W.heap.size then cs[o]? else none := by
  split
  · rename_i h
    exact World.cell?_of_block (Below.heap_alloc W _ b h)
  · rename_i h
    split
    · rename_i h2
      subst h2
      simp only [World.cell?, blk_new]
      rfl
    · rename_i h2
      simp only [World.cell?]
      rw [Array.getElem?_eq_none (by rw [size_alloc]; omega)]
theorem alloc_frozen (W : World) (cs : Array Value) (T : TypeId) (b o : Nat) : (W.alloc (.cells cs T (0, 0))).frozen? ⟨b, o, none⟩ = if b < W.heap.size then W.frozen? ⟨b, o, none⟩ else false := by
  split
  · rename_i h
    exact World.frozen?_of_block (Below.heap_alloc W _ b h)
  · rename_i h
    by_cases h2 : b = W.heap.size
    · subst h2
      simp only [World.frozen?, blk_new]
      simp
    · simp only [World.frozen?]
      rw [Array.getElem?_eq_none (by rw [size_alloc]; omega)]
theorem set_cell (W : World) (g j b o : Nat) (v : Value) : (W.setCell ⟨g, j, none⟩ v).cell? ⟨b, o, none⟩ = if b = g then if o = j then (W.cell? ⟨b, o, none⟩).map fun _ => v else W.cell? ⟨b, o, none⟩ else W.cell? ⟨b, o, none⟩ := by
  split
  · rename_i h
    subst h
    split
    · rename_i h
      subst h
      cases hc : W.cell? ⟨b, o, none⟩ with
      | some u => rw [cell_set_same (by rw [hc]; rfl)]; rfl
      | none =>
        simp only [World.cell?] at hc
        simp only [World.cell?, World.setCell, Array.getElem?_modify]
        cases hh : W.heap[b]? with
        | none => simp
        | some ob =>
          rw [hh] at hc
          cases ob <;> simp_all
    · rename_i h
      exact cell_set_other W (by intro e; injection e; omega) rfl rfl v
  · rename_i h
    exact cell_set_other W (by intro e; injection e; omega) rfl rfl v
theorem set_frozen (W : World) (a : Addr) (b o : Nat) (v : Value) : (W.setCell a v).frozen? ⟨b, o, none⟩ = W.frozen? ⟨b, o, none⟩ := frozen_set W a _ v
theorem drew_cell (W : World) (a : Addr) : W.drew.cell? a = W.cell? a := rfl
theorem drew_size (W : World) : W.drew.heap.size = W.heap.size := rfl
theorem lt_more {a b c : Nat} (h : a < b) : (a < b + c) = True := eq_true (by omega)
theorem lt_suc {a b : Nat} : (a < a + 1 + b) = True := eq_true (by omega)
theorem le_more {a b c : Nat} (h : a ≤ b) : (a ≤ b + c) = True := eq_true (by omega)
theorem le_lt {a b : Nat} (h : a < b) : (a ≤ b) = True := eq_true (by omega)
theorem bext (h : Below w.heap.size w w1) (x : Ext w1) : Below w.heap.size w (ext w1 x) := bel h x.bel
theorem bdr (h : Below w.heap.size w w1) : Below w.heap.size w w1.drew := h.drew
theorem bdrN (h : Below w.heap.size w w1) (n : Nat) : Below w.heap.size w (w1.drewN n) := bdn h n
theorem bst (h : Below w.heap.size w w1) {p : Addr} (u : Value) (hp : w.heap.size ≤ p.block) : Below w.heap.size w (w1.setCell p u) := bset h hp u
theorem drew_ext (w : World) : ∃ x, w.drew = ext w x := ext_of (Below.refl _ _).drew
/-- The class of the worlds that have grown out of one. -/
def Grew (w : World) (w' : World) : Prop := ∃ x, w' = ext w x
theorem Grew.of_bel {w w' : World} (h : Below w.heap.size w w') : Grew w w' := ext_of h
theorem ext_ext (x : Ext w) (y : Ext (ext w x)) : ∃ z, ext (ext w x) y = ext w z := ext_of (bext (ext_bel w x) y)
variable {P : Program}
/-- A region that draws its order, that only reads, and whose calls leave what was there as it was: the order of the text serves. -/
theorem wp_region_ext {id : Nat} {Q : Exit → Act → World → Prop} {a : Act} {w : World} {l : List Oper} (hm : P.follows .mixedOrders = true) (hB : Region.lexB .any l.toArray = true)
    (h : wpQuiet P l.toArray (fun w' => ∃ x, w' = ext w x) (fun a' => ∀ w', (∃ x, w' = ext w x) → Q .normal a' w') l a) : (Code.region id l.toArray true).wp P Q a w :=
  wp_region_quiet (C := fun w' => ∃ x, w' = ext w x) hm hB (drew_ext w) (by simpa using h)
theorem same_bel {f : FuncId} {args : Array Value} {v : Value} (h : Calls P f args w fun e w' => e = .returned v ∧ w = w') : Calls P f args w fun e w' => e = .returned v ∧ Below w.heap.size w w' :=
  h.mono fun _ _ ⟨he, hm⟩ => ⟨he, hm ▸ Below.refl _ _⟩
/-- The world is given a name. -/
theorem name_world {c : Code} {Q : Exit → Act → World → Prop} {a : Act} {W : World} (h : ∀ W5, W5 = W → c.wp P Q a W5) : c.wp P Q a W := h W rfl
/-- Grown twice is grown. -/
theorem join_ext {c : Code} {Q : Exit → Act → World → Prop} {a : Act} {x : Ext w} {y : Ext (ext w x)} (h : ∀ z, c.wp P Q a (ext w z)) : c.wp P Q a (ext (ext w x) y) := by
  obtain ⟨z, hz⟩ := ext_ext x y
  rw [hz]
  exact h z
/-- A contract, met in a world that has grown. -/
theorem Calls.grew {f : FuncId} {args : Array Value} {x : Ext w} {v : Value}
    (h : Calls P f args (ext w x) fun e w' => e = .returned v ∧ Below (ext w x).heap.size (ext w x) w') : Calls P f args (ext w x) fun e w'' => e = .returned v ∧ ∃ m, w'' = ext w m :=
  h.mono fun _ _ ⟨he, hm⟩ => ⟨he, ext_of (bel x.bel hm)⟩
theorem Calls.grew_same {f : FuncId} {args : Array Value} {x : Ext w} {v : Value}
    (h : Calls P f args (ext w x) fun e w' => e = .returned v ∧ ext w x = w') : Calls P f args (ext w x) fun e w'' => e = .returned v ∧ ∃ m, w'' = ext w m :=
  h.mono fun _ _ ⟨he, hm⟩ => ⟨he, x, hm.symm⟩
end
end Go.Proofs.Ytndgollcganhmaa
/- Labels and matchers, plain. No program in sight. -/
namespace Go.Proofs.Ytndgollcganhmaa
open Go.RowKit
def azB (b : UInt8) : Bool := decide (97 ≤ b.toNat) && decide (b.toNat ≤ 122)
def avB (b : UInt8) : Bool := azB b || (decide (48 ≤ b.toNat) && decide (b.toNat ≤ 57)) || decide (b.toNat = 45)
def nameB (s : ByteArray) : Bool := s.data.toList.all azB && decide (1 ≤ s.size) && decide (s.size ≤ 8)
def valB (s : ByteArray) : Bool := s.data.toList.all avB && decide (s.size ≤ 8)
theorem all_bad {p : UInt8 → Bool} {s : ByteArray} {k : Nat} (h : k < s.size) (hp : p (s[k]'h) = false) : s.data.toList.all p = false := by
  rw [List.all_eq_false]
  exact ⟨_, Array.getElem_mem_toList (xs := s.data) h, by rw [show s.data[k]'h = s[k]'h from rfl, hp]; simp⟩
theorem all_good {p : UInt8 → Bool} {s : ByteArray} (h : ∀ k (hk : k < s.size), p (s[k]'hk) = true) : s.data.toList.all p = true := by
  rw [List.all_eq_true]
  intro x hx
  obtain ⟨k, hk, rfl⟩ := List.mem_iff_getElem.1 hx
  exact h k (by simpa [len_data] using hk)
structure Lab where
  name : ByteArray
  value : ByteArray
deriving DecidableEq
def labC (x : Lab) : List Value := [.string x.name, .string x.value]
def labV (x : Lab) : Value := .agg #[.string x.name, .string x.value]
def labB (x : Lab) : Bool := nameB x.name && valB x.value
structure Mat where
  kind : Int
  name : ByteArray
  value : ByteArray
deriving DecidableEq
def matC (x : Mat) : List Value := [.int .i64 x.kind, .string x.name, .string x.value]
def matV (x : Mat) : Value := .agg #[.int .i64 x.kind, .string x.name, .string x.value]
def matB (x : Mat) : Bool := decide (0 ≤ x.kind) && decide (x.kind ≤ 3) && nameB x.name && valB x.value && (decide (x.kind ≠ 3) || decide (x.value.size = 0))
def labsC (xs : List Lab) : List Value := xs.flatMap labC
def matsC (xs : List Mat) : List Value := xs.flatMap matC
theorem flat_get {α : Type} {en : α → List Value} {sz : Nat} (hsz : ∀ x, (en x).length = sz) : ∀ (xs : List α) (i j : Nat) (h : i < xs.length), j < sz → (xs.flatMap en)[i * sz + j]? = (en xs[i])[j]?
  | x :: xs, 0, j, h, hj => by
    rw [List.flatMap_cons, List.getElem?_append_left (by rw [hsz]; omega)]
    simp
  | x :: xs, i + 1, j, h, hj => by
    rw [List.flatMap_cons, List.getElem?_append_right (by rw [hsz, Nat.succ_mul]; omega)]
    have e : (i + 1) * sz + j - (en x).length = i * sz + j := by rw [hsz, Nat.succ_mul]; omega
    rw [e, flat_get hsz xs i j (by simpa using h) hj]
    simp
theorem flat_len {α : Type} {en : α → List Value} {sz : Nat} (hsz : ∀ x, (en x).length = sz) (xs : List α) : (xs.flatMap en).length = xs.length * sz := by
  induction xs with
  | nil => simp
  | cons x xs ih => rw [List.flatMap_cons, List.length_append, ih, hsz, List.length_cons, Nat.succ_mul]; omega
theorem labs_get (xs : List Lab) (i : Nat) (h : i < xs.length) : (labsC xs)[i * 2]? = some (.string xs[i].name) ∧ (labsC xs)[i * 2 + 1]? = some (.string xs[i].value) :=
  ⟨flat_get (en := labC) (sz := 2) (fun _ => rfl) xs i 0 h (by omega), flat_get (en := labC) (sz := 2) (fun _ => rfl) xs i 1 h (by omega)⟩
theorem mats_get (xs : List Mat) (i : Nat) (h : i < xs.length) : (matsC xs)[i * 3]? = some (.int .i64 xs[i].kind) ∧ (matsC xs)[i * 3 + 1]? = some (.string xs[i].name) ∧ (matsC xs)[i * 3 + 2]? = some (.string xs[i].value) :=
  ⟨flat_get (en := matC) (sz := 3) (fun _ => rfl) xs i 0 h (by omega), flat_get (en := matC) (sz := 3) (fun _ => rfl) xs i 1 h (by omega), flat_get (en := matC) (sz := 3) (fun _ => rfl) xs i 2 h (by omega)⟩
/-! ### texts in order -/
def ltS (s t : ByteArray) : Bool := Op.bytesLess s.toList t.toList
def cmpS (s t : ByteArray) : Int := if ltS s t = true then -1 else if (s.toList == t.toList) = true then 0 else 1
theorem cmpS_lt {s t : ByteArray} (h : ltS s t = true) : cmpS s t = -1 := by unfold cmpS; rw [if_pos h]
theorem cmpS_ge {s t : ByteArray} (h : ltS s t = false) : 0 ≤ cmpS s t := by
  unfold cmpS
  rw [if_neg (by simp [h])]
  split <;> omega
theorem bytes_lt_self : ∀ l : List UInt8, Op.bytesLess l l = false
  | [] => rfl
  | a :: l => by simp [Op.bytesLess, bytes_lt_self l]
theorem bytes_lt_trans : ∀ a b c : List UInt8, Op.bytesLess a b = true → Op.bytesLess b c = true → Op.bytesLess a c = true
  | _, [], _, h, _ => by cases ‹List UInt8› <;> simp [Op.bytesLess] at h
  | [], _ :: _, [], _, h => by simp [Op.bytesLess] at h
  | [], _ :: _, _ :: _, _, _ => rfl
  | _ :: _, _ :: _, [], _, h => by simp [Op.bytesLess] at h
  | x :: a, y :: b, z :: c, h1, h2 => by
    simp only [Op.bytesLess, Bool.or_eq_true, Bool.and_eq_true, decide_eq_true_eq, beq_iff_eq] at h1 h2 ⊢
    rcases h1 with h1 | ⟨rfl, h1⟩
    · rcases h2 with h2 | ⟨rfl, h2⟩
      · exact .inl (UInt8.lt_trans h1 h2)
      · exact .inl h1
    · rcases h2 with h2 | ⟨rfl, h2⟩
      · exact .inl h2
      · exact .inr ⟨rfl, bytes_lt_trans a b c h1 h2⟩
theorem bytes_lt_total : ∀ a b : List UInt8, Op.bytesLess a b = true ∨ a = b ∨ Op.bytesLess b a = true
  | [], [] => .inr (.inl rfl)
  | [], _ :: _ => .inl rfl
  | _ :: _, [] => .inr (.inr rfl)
  | x :: a, y :: b => by
    simp only [Op.bytesLess, Bool.or_eq_true, Bool.and_eq_true, decide_eq_true_eq, beq_iff_eq]
    by_cases h : x < y
    · exact .inl (.inl h)
    · by_cases h' : y < x
      · exact .inr (.inr (.inl h'))
      · have e : x = y := UInt8.le_antisymm (UInt8.not_lt.1 h') (UInt8.not_lt.1 h)
        subst e
        rcases bytes_lt_total a b with h | rfl | h
        · exact .inl (.inr ⟨rfl, h⟩)
        · exact .inr (.inl rfl)
        · exact .inr (.inr (.inr ⟨rfl, h⟩))
theorem ltS_self (s : ByteArray) : ltS s s = false := bytes_lt_self _
theorem ltS_trans {a b c : ByteArray} (h1 : ltS a b = true) (h2 : ltS b c = true) : ltS a c = true := bytes_lt_trans _ _ _ h1 h2
theorem ltS_total (a b : ByteArray) : ltS a b = true ∨ a = b ∨ ltS b a = true := by
  rcases bytes_lt_total a.toList b.toList with h | h | h
  · exact .inl h
  · exact .inr (.inl (bytes_of_eq (by rw [h]; simp)))
  · exact .inr (.inr h)
theorem ltS_asym {a b : ByteArray} (h : ltS a b = true) : ltS b a = false := by
  cases h' : ltS b a
  · rfl
  · have := ltS_trans h h'
    rw [ltS_self] at this
    exact this.symm
/-- Names in order, each one less than the next. -/
def risesB : List Lab → Bool
  | x :: y :: r => ltS x.name y.name && risesB (y :: r)
  | _ => true
theorem rises_all : ∀ {xs : List Lab}, (∀ i (h : i + 1 < xs.length), ltS xs[i].name xs[i + 1].name = true) → risesB xs = true
  | [], _ => rfl
  | [_], _ => rfl
  | x :: y :: r, h => by
    unfold risesB
    rw [show ltS x.name y.name = true from h 0 (by simp), Bool.true_and]
    exact rises_all fun i hi => h (i + 1) (by simpa using hi)
theorem rises_at : ∀ {xs : List Lab}, risesB xs = true → ∀ i (h : i + 1 < xs.length), ltS xs[i].name xs[i + 1].name = true
  | x :: y :: r, h, 0, _ => by
    unfold risesB at h
    rw [Bool.and_eq_true] at h
    exact h.1
  | x :: y :: r, h, i + 1, hi => by
    unfold risesB at h
    rw [Bool.and_eq_true] at h
    exact rises_at h.2 i (by simpa using hi)
theorem rises_bad {xs : List Lab} {i : Nat} (h : i + 1 < xs.length) (hb : ltS xs[i].name xs[i + 1].name = false) : risesB xs = false := by
  cases e : risesB xs
  · rfl
  · rw [rises_at e i h] at hb
    exact hb
def eachB (xs : List Lab) : Bool := decide (1 ≤ xs.length) && decide (xs.length ≤ 3) && !xs.any (fun x => !labB x)
def labsB (xs : List Lab) : Bool := risesB xs && eachB xs
/-! ### matching -/
def ofB (k : Int) (v a : ByteArray) : Bool := if k = 0 then v.toList == a.toList else if k = 1 then !(v.toList == a.toList) else if k = 2 then Lib.hasPrefix v.data.toList a.data.toList else true
def isOf (m : Mat) (x : Lab) : Bool := x.name.toList == m.name.toList
def matchB (m : Mat) (xs : List Lab) : Bool := match xs.find? (isOf m) with | none => decide (m.kind = 1) | some x => ofB m.kind x.value m.value
def allB (ms : List Mat) (xs : List Lab) : Bool := !ms.any (fun m => !matchB m xs)
def allE (ms : List Mat) (xs : List Lab) : Int := if labsB xs = true ∧ ms.length ≤ 4 ∧ ms.any (fun m => !matB m) = false then 0 else 1
theorem idx_find {α : Type} (p : α → Bool) : ∀ xs : List α, (idxOf p xs = -1 ∧ xs.find? p = none) ∨ ∃ i, ∃ h : i < xs.length, idxOf p xs = i ∧ xs.find? p = some xs[i]
  | [] => .inl ⟨rfl, rfl⟩
  | x :: xs => by
    by_cases hx : p x = true
    · refine .inr ⟨0, by simp, ?_, by simp [hx]⟩
      exact idxOf_found (i := 0) (by simp) hx (fun j hj => absurd hj (by omega))
    · have hx' : p x = false := by simpa using hx
      rcases idx_find p xs with ⟨h1, h2⟩ | ⟨i, h, h1, h2⟩
      · refine .inl ⟨?_, by simp [hx', h2]⟩
        refine idxOf_none fun j hj => ?_
        cases j with
        | zero => exact hx'
        | succ j =>
          have hj' : j < xs.length := by simpa using hj
          have h3 := List.find?_eq_none.1 h2 xs[j] (List.getElem_mem hj')
          simpa using h3
      · refine .inr ⟨i + 1, by simpa using h, ?_, by simp [hx', h2]⟩
        have h3 := List.find?_eq_some_iff_getElem.1 h2
        obtain ⟨hp, k, hk, hke, hkn⟩ := h3
        unfold idxOf at h1 ⊢
        rw [List.findIdx?_cons, hx']
        cases hq : xs.findIdx? p with
        | none => rw [hq] at h1; exact absurd h1 (by simp)
        | some q =>
          rw [hq] at h1
          simp at h1 ⊢
          omega
end Go.Proofs.Ytndgollcganhmaa
/- Slices as they come in are opened: what is readable lies as cells, element behind element. No program in sight. -/
namespace Go.Proofs.Ytndgollcganhmaa
open Go.RowKit Go.ChangeShapes Go.WideShapes Go.ChangeAt
theorem add_off (b o j : Nat) : (⟨b, o, none⟩ : Addr).add j = ⟨b, o + j, none⟩ := by unfold Addr.add; split <;> simp_all
section
variable {H : Type} {enc : TypeId × Value → H} {P : Program} {W : World} {r : Reach} {base bb : Nat} {spare : Nat → Bool} {held : Bool} {t e : TypeId} {v : Value} {d : DataW H} {p : List MemPlace}
theorem cell_spot {a : Addr} {u : Value} (h : W.cell? a = some u) : a.spot = none := by
  unfold World.cell? at h
  split at h
  · split at h
    · cases h
    · rename_i hs
      cases hsp : a.spot with
      | none => rfl
      | some x => simp [hsp] at hs
  · cases h
theorem sl_of_trod {sz : Nat} (ht : P.underlying t = some (.slice e)) (hsz : P.cellsOf e = sz) (h0 : 0 < sz) (h : DataW.Trod enc P W base spare held t v d p) (hv : ∃ a l c, v = .slice a l c) :
    ∃ n cells, SlAt W v sz n cells ∧ ∀ i, i < n → ∃ f y, DataW.trod enc P W base spare held f e ((cells.drop (i * sz)).take sz) = some y := by
  obtain ⟨a0, l0, c0, rfl⟩ := hv
  obtain ⟨fuel, hf⟩ := h
  rcases DataW.trod_slice ht hf with ⟨hcs, _⟩ | ⟨a, len, cap, elems, rest, n, _, hcs, _, hb, hl, hm, hlen, hel, _, _⟩
  · have hcs' : [Value.slice a0 l0 c0] = [.slice none 0 0] := hcs
    injection hcs' with e1 _
    injection e1 with e1 e2 e3
    subst e1 e2 e3
    exact ⟨0, [], SlAt.nil _ _, fun i hi => absurd hi (by omega)⟩
  · have hcs' : [Value.slice a0 l0 c0] = [.slice (some a) len cap] := hcs
    injection hcs' with e1 _
    injection e1 with e1 e2 e3
    subst e1 e2 e3
    rw [hsz] at hel
    have each : ∀ i, i < l0 → ∃ cs y, W.cells? base (a.add (i * sz)) sz = some cs ∧ DataW.trod enc P W base spare held n e cs = some y := by
      intro i hi
      have h1 := hel i hi
      rw [List.getElem?_eq_getElem (by omega)] at h1
      obtain ⟨cs, h2, h3⟩ := Option.bind_eq_some_iff.1 h1
      exact ⟨cs, _, h2, h3⟩
    have hadd : ∀ i j, (a.add i).add j = a.add (i + j) := by
      intro i j
      unfold Addr.add
      by_cases h1 : i = 0 <;> by_cases h2 : j = 0 <;> simp [h1, h2, Nat.add_assoc]
    have hcell : ∀ j, j < l0 * sz → ∃ u, W.cell? (a.add j) = some u := by
      intro j hj
      have hi : j / sz < l0 := (Nat.div_lt_iff_lt_mul h0).2 hj
      obtain ⟨cs, y, h2, _⟩ := each (j / sz) hi
      obtain ⟨_, h4, h5⟩ := World.cells?_some h2
      have hr : j % sz < sz := Nat.mod_lt _ h0
      have h6 := h5 (j % sz) hr
      rw [hadd, Nat.div_add_mod' j sz] at h6
      exact ⟨_, h6.trans (List.getElem?_eq_getElem (by omega))⟩
    have hj' : ∀ j, j < l0 * sz → W.cell? (a.add j) = some ((W.cell? (a.add j)).getD undef) := by
      intro j hj
      obtain ⟨u, hu⟩ := hcell j hj
      rw [hu]
      rfl
    refine ⟨l0, (List.range (l0 * sz)).map fun j => (W.cell? (a.add j)).getD undef, ⟨by simp, some a, c0, rfl, hl, by omega, ?_⟩, ?_⟩
    · rcases Nat.eq_zero_or_pos l0 with hz | hz
      · exact .inl hz
      · right
        obtain ⟨u, hu⟩ := hcell 0 (Nat.mul_pos hz h0)
        have hsp := cell_spot hu
        have ha0 : a.add 0 = a := by simp [Addr.add]
        rw [ha0] at hsp hu
        obtain ⟨b, o, s⟩ := a
        simp only at hsp
        subst hsp
        refine ⟨b, o, rfl, World.block_lt_of_cell? W _ hu, fun j u' hu' => ?_⟩
        rw [List.getElem?_map] at hu'
        obtain ⟨k, hk, rfl⟩ := Option.map_eq_some_iff.1 hu'
        obtain ⟨hk1, hk2⟩ := List.getElem?_eq_some_iff.1 hk
        rw [List.getElem_range] at hk2
        subst hk2
        rw [List.length_range] at hk1
        have := hj' j hk1
        rw [add_off] at this ⊢
        exact this
    · intro i hi
      obtain ⟨cs, y, h2, h3⟩ := each i hi
      obtain ⟨_, h4, h5⟩ := World.cells?_some h2
      refine ⟨n, y, ?_⟩
      have hchunk : (((List.range (l0 * sz)).map fun j => (W.cell? (a.add j)).getD undef).drop (i * sz)).take sz = cs := by
        have hle : i * sz + sz ≤ l0 * sz := by rw [← Nat.succ_mul]; exact Nat.mul_le_mul_right _ hi
        apply List.ext_getElem
        · simp only [List.length_take, List.length_drop, List.length_map, List.length_range]
          omega
        · intro j h6 h7
          simp only [List.length_take, List.length_drop, List.length_map, List.length_range] at h6
          simp only [List.getElem_take, List.getElem_drop, List.getElem_map, List.getElem_range]
          have h8 := h5 j (by omega)
          rw [hadd] at h8
          rw [h8, List.getElem?_eq_getElem h7]
          rfl
      rw [hchunk]
      exact h3
/-- Cells, element behind element. -/
theorem cells_enc {α : Type} (en : α → List Value) (Q : α → Prop) (sz : Nat) : ∀ (n : Nat) (cells : List Value), cells.length = n * sz → (∀ i, i < n → ∃ x, (cells.drop (i * sz)).take sz = en x ∧ Q x) → ∃ xs : List α, xs.length = n ∧ cells = xs.flatMap en ∧ ∀ x ∈ xs, Q x := by
  intro n
  induction n with
  | zero =>
    intro cells hl _
    exact ⟨[], rfl, by simpa using hl, fun x hx => by simp at hx⟩
  | succ n ih =>
    intro cells hl h
    obtain ⟨x, hx, hq⟩ := h 0 (by omega)
    obtain ⟨xs, h1, h2, h3⟩ := ih (cells.drop sz) (by rw [List.length_drop, hl, Nat.succ_mul]; omega) (fun i hi => by
      obtain ⟨y, hy, hq'⟩ := h (i + 1) (by omega)
      refine ⟨y, ?_, hq'⟩
      rw [List.drop_drop, ← hy, Nat.succ_mul, Nat.add_comm])
    refine ⟨x :: xs, by simp [h1], ?_, fun y hy => ?_⟩
    · rw [List.flatMap_cons, ← h2, ← hx]
      simp
    · rcases List.mem_cons.1 hy with rfl | hy
      · exact hq
      · exact h3 y hy
theorem flat_strs (xs : List ByteArray) : xs.flatMap (fun s => [Value.string s]) = strs xs := by
  induction xs with
  | nil => rfl
  | cons x xs ih =>
    rw [List.flatMap_cons, ih]
    rfl
/-- A []string. -/
theorem open_strs (ht : P.underlying t = some (.slice e)) (he : P.underlying e = some .string) (hc : P.cellsOf e = 1) (h : DataW.Trod enc P W base spare held t v d p) (hv : ∃ a l c, v = .slice a l c) :
    ∃ xs : List ByteArray, SlAt W v 1 xs.length (strs xs) ∧ ∀ x ∈ xs, x.size ≤ maxLen := by
  obtain ⟨n, cells, hS, hel⟩ := sl_of_trod ht hc (by omega) h hv
  obtain ⟨xs, h1, h2, h3⟩ := cells_enc (fun s => [Value.string s]) (fun s => s.size ≤ maxLen) 1 n cells hS.1 (fun i hi => by
    obtain ⟨f, y, hy⟩ := hel i hi
    obtain ⟨s, hs, _, hw⟩ := DataW.trod_string he hy
    exact ⟨s, hs, hw⟩)
  rw [flat_strs] at h2
  subst h1 h2
  exact ⟨xs, hS, h3⟩
theorem slice_of_trod {u : Value} {fuel : Nat} {x : DataW H × List MemPlace} (ht : P.underlying t = some (.slice e)) (h : DataW.trod enc P W base spare held fuel t [u] = some x) : (∃ a l c, u = .slice a l c) ∧ DataW.Trod enc P W base spare held t u x.1 x.2 := by
  have hu : ∃ a l c, u = .slice a l c := by
    rcases DataW.trod_slice ht h with ⟨hcs, _⟩ | ⟨a, len, cap, elems, rest, n, _, hcs, _⟩
    · injection hcs with e1 _
      exact ⟨_, _, _, e1⟩
    · injection hcs with e1 _
      exact ⟨_, _, _, e1⟩
  refine ⟨hu, ?_⟩
  obtain ⟨a, l, c, rfl⟩ := hu
  exact ⟨fuel, h⟩
/-- A struct of one field. -/
theorem open_s1 {f0 : Field} (ht : P.underlying t = some (.struct #[f0])) (hc : P.cellsOf t = 1) (hc0 : P.cellsOf f0.type = 1) (ho : f0.offset = 0) (hv : Value.okWide P W r bb t v) (h : DataW.Trod enc P W base spare held t v d p) :
    ∃ u y q, v = .agg #[u] ∧ ∃ fuel, DataW.trod enc P W base spare held fuel f0.type [u] = some (y, q) := by
  obtain ⟨cs, rfl, hsz⟩ := okWide_struct ht hv
  rw [hc] at hsz
  obtain ⟨u, rfl⟩ : ∃ u, cs = #[u] := by
    obtain ⟨l⟩ := cs
    match l, hsz with
    | [u], _ => exact ⟨_, rfl⟩
  obtain ⟨fuel, hf⟩ := h
  obtain ⟨xs, n, _, _, _, hlx, hx⟩ := DataW.trod_struct ht hf
  have h0 := hx 0 f0 rfl
  rw [ho, hc0] at h0
  have hlx' : xs.length = 1 := hlx
  obtain ⟨⟨y, q⟩, rfl⟩ : ∃ x, xs = [x] := by
    match xs, hlx' with
    | [x], _ => exact ⟨_, rfl⟩
  exact ⟨u, y, q, rfl, n, h0⟩
/-- An api.Disk. -/
theorem open_disk {f0 : Field} (ht : P.underlying t = some (.struct #[f0])) (hc : P.cellsOf t = 1) (hc0 : P.cellsOf f0.type = 1) (ho : f0.offset = 0) (ht0 : P.underlying f0.type = some (.slice e)) (he : P.underlying e = some .string) (hce : P.cellsOf e = 1)
    (hv : Value.okWide P W r bb t v) (h : DataW.Trod enc P W base spare held t v d p) : ∃ a : Value × List ByteArray, v = .agg #[a.1] ∧ SlAt W a.1 1 a.2.length (strs a.2) := by
  obtain ⟨u, y, q, rfl, fuel, hf⟩ := open_s1 ht hc hc0 ho hv h
  obtain ⟨hu, h2⟩ := slice_of_trod ht0 hf
  obtain ⟨xs, h3, _⟩ := open_strs ht0 he hce h2 hu
  exact ⟨(u, xs), rfl, h3⟩
end
end Go.Proofs.Ytndgollcganhmaa
/- Between the printer's words for rows and my own: a row that is read, a row of one's own. No program in sight. -/
namespace Go.Proofs.Ytndgollcganhmaa
open Go.RowKit Go.Proofs.YtndgollcganhmaaW.PrintWords
theorem map_flat {α β : Type} (f : α → β) (en : β → List Value) (xs : List α) : (xs.map f).flatMap en = xs.flatMap fun x => en (f x) := by
  induction xs with
  | nil => rfl
  | cons x xs ih => simp [ih]
theorem flat_get? {α : Type} {en : α → List Value} {sz : Nat} (hsz : ∀ x, (en x).length = sz) (h0 : 0 < sz) (xs : List α) (t : Nat) (u : Value) (hu : (xs.flatMap en)[t]? = some u) :
    ∃ h : t / sz < xs.length, (en xs[t / sz])[t % sz]? = some u := by
  have hl : t < (xs.flatMap en).length := (List.getElem?_eq_some_iff.1 hu).1
  rw [flat_len hsz] at hl
  have h1 : t / sz < xs.length := (Nat.div_lt_iff_lt_mul h0).2 hl
  refine ⟨h1, ?_⟩
  have := flat_get hsz xs (t / sz) (t % sz) h1 (Nat.mod_lt _ h0)
  rw [Nat.div_add_mod'] at this
  rw [← this, hu]
section
variable {α β : Type} {d : Kd α} {en : β → List Value} {f : α → β} {w W : World} {A : Option Addr} {c g cap n sz B : Nat} {e : TypeId} {xs : List α} {cells : List Value} {v : Value}
/-- A row that is read, whose elements' cells say all. -/
theorem slat_of_C (hK : ∀ {w : World} {x : α} {cs : List Value}, d.K w x cs → cs = en (f x)) (hsz : ∀ y, (en y).length = d.sz) (h0 : 0 < d.sz) (h : d.C w A xs.length xs) (hc : xs.length ≤ c) :
    SlAt w (.slice A xs.length c) d.sz xs.length ((xs.map f).flatMap en) := by
  obtain ⟨_, hm, hr⟩ := h
  refine ⟨by rw [flat_len hsz, List.length_map], A, c, rfl, hc, by unfold maxLen; omega, ?_⟩
  rcases Nat.eq_zero_or_pos xs.length with hz | hz
  · exact .inl hz
  · right
    obtain ⟨ad, rfl, hcell⟩ := hr hz
    have hget : ∀ t u, ((xs.map f).flatMap en)[t]? = some u → w.cell? (ad.add t) = some u := by
      intro t u hu
      obtain ⟨h1, h2⟩ := flat_get? hsz h0 _ t u hu
      rw [List.length_map] at h1
      obtain ⟨cs, _, hk, hcs⟩ := hcell (t / d.sz) xs[t / d.sz] (List.getElem?_eq_getElem h1)
      have := hcs (t % d.sz) u (by rw [hK hk]; simpa using h2)
      rwa [Nat.div_add_mod'] at this
    have hfl : 0 < ((xs.map f).flatMap en).length := by rw [flat_len hsz, List.length_map]; exact Nat.mul_pos hz h0
    have h1 := hget 0 _ (List.getElem?_eq_getElem hfl)
    have ha0 : ad.add 0 = ad := by simp [Addr.add]
    rw [ha0] at h1
    have hsp := cell_spot h1
    obtain ⟨b, o, s⟩ := ad
    simp only at hsp
    subst hsp
    refine ⟨b, o, rfl, World.block_lt_of_cell? _ _ h1, fun j u hu => ?_⟩
    have := hget j u hu
    rwa [add_off] at this
/-- A row of one's own, whose elements' cells say all. -/
theorem R_of_own {g : β → α} (hM : ∀ (w : World) (b : Nat) (ok : Nat → Prop) (y : β), d.M w b ok (g y) (en y)) (hsz : ∀ y, (en y).length = d.sz) {ys : List β} (h : w.ownsRow B e d.sz v ys.length (ys.flatMap en)) :
    d.R e w B (fun _ => True) v (ys.map g) := by
  refine ⟨fun _ _ => trivial, ys.flatMap en, by rw [List.length_map]; exact h, by rw [flat_len hsz, List.length_map], fun j p hj => ?_⟩
  rw [List.getElem?_map] at hj
  obtain ⟨y, hy, rfl⟩ := Option.map_eq_some_iff.1 hj
  obtain ⟨hj1, hj2⟩ := List.getElem?_eq_some_iff.1 hy
  have : ((ys.flatMap en).drop (j * d.sz)).take d.sz = en y := by
    apply List.ext_getElem?
    intro i
    rw [List.getElem?_take]
    split
    · rename_i hi
      rw [List.getElem?_drop, flat_get hsz ys j i hj1 hi, hj2]
    · rename_i hi
      rw [List.getElem?_eq_none (by rw [hsz]; omega)]
  rw [this]
  exact hM _ _ _ _
/-- A block known whole, and cells known: a row of one's own. -/
theorem own_of_cells {cur : Array Value} (hb : W.heap[g]? = some (.cells cur e (0, 0))) (hs : cur.size = cap * sz) (hS : SlAt W (.slice (some ⟨g, 0, none⟩) n cap) sz n cells) (h1 : n ≤ cap) (h2 : cap ≤ maxLen) (hB : B ≤ g) :
    W.ownsRow B e sz (.slice (some ⟨g, 0, none⟩) n cap) n cells := by
  refine ⟨hS.1, .inr ⟨g, cap, cur, rfl, hB, hb, h1, h2, hs, ?_⟩⟩
  have hle : n * sz ≤ cap * sz := Nat.mul_le_mul_right _ h1
  apply List.ext_getElem?
  intro j
  rw [List.getElem?_take]
  split
  · rename_i hj
    have hn : 0 < n := Nat.pos_of_ne_zero (fun e => by subst e; simp at hj)
    obtain ⟨b, o, ha, _, hc⟩ := hS.at hn
    injection ha with ha
    injection ha with ha1 ha2
    subst ha1 ha2
    have hjl : j < cells.length := by rw [hS.1]; exact hj
    have := hc j _ (List.getElem?_eq_getElem hjl)
    simp only [World.cell?, hb, Nat.zero_add] at this
    rw [List.getElem?_eq_getElem hjl]
    simpa using this
  · rename_i hj
    rw [List.getElem?_eq_none (by rw [hS.1]; omega)]
end
open Go.Sort in
/-- A sorted row's block keeps its form. -/
theorem sort_blockT {α : Type} [Inhabited α] (en : α → List Value) (k : Nat) (w : World) (g m : Nat) (d : Array α) (os : Array Obj) {cur : Array Value} {e : TypeId} {fr : Nat × Nat} (hg : g < w.heap.size) (h : w.heap[g]? = some (.cells cur e fr)) :
    ∃ cur', (sortWorldK en k w g 0 m d os).heap[g]? = some (.cells cur' e fr) ∧ cur'.size = cur.size := by
  refine ⟨putCells id 0 (flatK en k d) cur, ?_, by simp [putCells]⟩
  unfold sortWorldK
  rw [heap_grow_old _ _ (by simp [putRowK, putRow, mapBlock, Sort.ahead]; exact hg)]
  simp [putRowK, putRow, mapBlock, Sort.ahead, Array.getElem?_modify, h, onCells]
end Go.Proofs.Ytndgollcganhmaa
/- Contracts of label: isName, isValue, isLabel, Matcher. -/
namespace Go.Proofs.Ytndgollcganhmaa
open Go.RowKit
attribute [local go_sem high] ext_size ext_cell ext_frozen alloc_cell alloc_frozen
theorem size_iter (w : World) (s : ByteArray) (p : Nat) : Below w.heap.size w (w.iter s p) := (Below.refl _ _).alloc (Nat.le_refl _) _
theorem str_empty {s : ByteArray} (h : s.size = 0) : s = ⟨#[]⟩ := by
  apply ByteArray.ext
  exact Array.eq_empty_of_size_eq_zero h
theorem toList_len (s : ByteArray) : s.toList.length = s.size := by rw [ByteArray.toList_eq]; exact len_data s
theorem nonempty_dec (s : ByteArray) : (!s.toList.isEmpty) = decide (1 ≤ s.size) := by
  have := toList_len s
  cases h : s.toList with
  | nil => rw [h] at this; simp at this; simp [← this]
  | cons x xs => rw [h] at this; simp at this; simp; omega
theorem name_no {s : ByteArray} {k : Nat} (h : k < s.size) (hp : azB (s[k]'h) = false) : false = nameB s := by
  unfold nameB
  rw [all_bad h hp]
  rfl
theorem name_end {s : ByteArray} (h : ∀ k (hk : k < s.size), azB (s[k]'hk) = true) : (!s.toList.isEmpty && decide ((s.size : Int) ≤ 8)) = nameB s := by
  unfold nameB
  rw [all_good h, nonempty_dec]
  congr 1
  simp
  omega
theorem az_yes {c : UInt8} (h : 97 ≤ c.toNat ∧ c.toNat ≤ 122) : azB c = true := by unfold azB; rw [decide_eq_true h.1, decide_eq_true h.2]; rfl
theorem az_no {c : UInt8} (h : c.toNat < 97 ∨ 122 < c.toNat) : azB c = false := by
  unfold azB
  rcases h with h | h
  · rw [decide_eq_false (by omega)]; rfl
  · rw [decide_eq_false (p := c.toNat ≤ 122) (by omega), Bool.and_false]
theorem isName_any (s : ByteArray) (w : World) (hs : s.size ≤ maxLen) :
    Calls Try.prog 42 #[.string s] w fun e w' => e = .returned (.bool (nameB s)) ∧ Below w.heap.size w w' := by
  unfold maxLen at hs
  go_enter Try.func42, Try.ntmps42
  go_wp2
  go_loopw [4] (fun _ wr => ∃ pos : Nat, pos ≤ s.size ∧ (∀ k (hk : k < s.size), k < pos → azB (s[k]'hk) = true) ∧ wr = w.iter s pos) (fun _ wr => s.size - wr.iterPos w.heap.size)
  case atStart => exact ⟨0, Nat.zero_le _, fun k _ h => absurd h (by omega), rfl⟩
  case round =>
    obtain ⟨pos, hp, hall, rfl⟩ := hrel
    have HALL := Lib.hid hall
    clear hall
    by_cases hlt : pos < s.size
    · obtain ⟨c, hc⟩ : ∃ c, c = (s[pos]'hlt).toNat := ⟨_, rfl⟩
      have HC := Lib.hid hc
      by_cases ha : c < 128
      · have hn := fun ty => run_next_ascii (P := Try.prog) w s pos ty hlt (by omega)
        rw [← hc] at hn
        clear hc
        by_cases haz : 97 ≤ c ∧ c ≤ 122
        · have h1 : ¬ ((c : Int) < 97) := by omega
          have h2 : ¬ (122 < (c : Int)) := by omega
          go_wp2
          refine ⟨⟨pos + 1, by omega, fun k hk hkp => ?_, rfl⟩, by simp; omega⟩
          rcases Nat.lt_succ_iff_lt_or_eq.1 hkp with h | rfl
          · exact HALL.out k hk h
          · exact az_yes (by have := HC.out; omega)
        · rcases (show c < 97 ∨ 122 < c by omega) with h1 | h1
          · have h2 : ((c : Int) < 97) := by omega
            go_wp2
            go_ret
            exact ⟨ret_bool (name_no hlt (az_no (by have := HC.out; omega))), size_iter _ _ _⟩
          · have h2 : ¬ ((c : Int) < 97) := by omega
            have h3 : (122 < (c : Int)) := by omega
            go_wp2
            go_ret
            exact ⟨ret_bool (name_no hlt (az_no (by have := HC.out; omega))), size_iter _ _ _⟩
      · have hn := fun ty => run_next_any (P := Try.prog) w s pos ty hlt
        obtain ⟨hd, _⟩ := decode_high s pos hlt (by omega)
        obtain ⟨d, hd'⟩ : ∃ d, d = (Utf8.decode s pos).1 := ⟨_, rfl⟩
        rw [← hd'] at hn hd
        have h2 : ¬ ((d : Int) < 97) := by omega
        have h3 : (122 < (d : Int)) := by omega
        clear hd' hc
        go_wp2
        go_ret
        exact ⟨ret_bool (name_no hlt (az_no (by have := HC.out; omega))), size_iter _ _ _⟩
    · have hn := fun ty => run_next_end (P := Try.prog) w s pos ty hlt
      go_wp2
      all_goals
        go_ret
        refine ⟨ret_bool ?_, size_iter _ _ _⟩
        rw [← name_end fun k hk => HALL.out k hk (by omega)]
        try (first | rfl | simp [*])
theorem val_no {s : ByteArray} {k : Nat} (h : k < s.size) (hp : avB (s[k]'h) = false) : false = valB s := by
  unfold valB
  rw [all_bad h hp]
  rfl
theorem val_end {s : ByteArray} (h : ∀ k (hk : k < s.size), avB (s[k]'hk) = true) : decide ((s.size : Int) ≤ 8) = valB s := by
  unfold valB
  rw [all_good h, Bool.true_and]
  simp
  omega
theorem av_yes {c : UInt8} (h : (97 ≤ c.toNat ∧ c.toNat ≤ 122) ∨ (48 ≤ c.toNat ∧ c.toNat ≤ 57) ∨ c.toNat = 45) : avB c = true := by
  unfold avB azB
  simp only [Bool.or_eq_true, Bool.and_eq_true, decide_eq_true_eq]
  omega
theorem av_no {c : UInt8} (h : ¬((97 ≤ c.toNat ∧ c.toNat ≤ 122) ∨ (48 ≤ c.toNat ∧ c.toNat ≤ 57) ∨ c.toNat = 45)) : avB c = false := by
  unfold avB azB
  rw [← Bool.not_eq_true]
  simp only [Bool.or_eq_true, Bool.and_eq_true, decide_eq_true_eq]
  omega
set_option maxHeartbeats 1000000 in
theorem isValue_any (s : ByteArray) (w : World) (hs : s.size ≤ maxLen) :
    Calls Try.prog 43 #[.string s] w fun e w' => e = .returned (.bool (valB s)) ∧ Below w.heap.size w w' := by
  unfold maxLen at hs
  go_enter Try.func43, Try.ntmps43
  go_wp2
  go_loopw [4] (fun _ wr => ∃ pos : Nat, pos ≤ s.size ∧ (∀ k (hk : k < s.size), k < pos → avB (s[k]'hk) = true) ∧ wr = w.iter s pos) (fun _ wr => s.size - wr.iterPos w.heap.size)
  case atStart => exact ⟨0, Nat.zero_le _, fun k _ h => absurd h (by omega), rfl⟩
  case round =>
    obtain ⟨pos, hp, hall, rfl⟩ := hrel
    have HALL := Lib.hid hall
    clear hall
    by_cases hlt : pos < s.size
    · obtain ⟨c, hc⟩ : ∃ c, c = (s[pos]'hlt).toNat := ⟨_, rfl⟩
      have HC := Lib.hid hc
      by_cases ha : c < 128
      · have hn := fun ty => run_next_ascii (P := Try.prog) w s pos ty hlt (by omega)
        rw [← hc] at hn
        clear hc
        by_cases haz : ((97 ≤ c ∧ c ≤ 122) ∨ (48 ≤ c ∧ c ≤ 57) ∨ c = 45)
        · rcases haz with h0 | h0 | h0
          all_goals
            first
              | (have h1 : ¬ ((c : Int) < 97) := by omega
                 have h2 : ¬ (122 < (c : Int)) := by omega)
              | (have h1 : ((c : Int) < 97) := by omega
                 have h2 : ¬ ((c : Int) < 48) := by omega
                 have h3 : ¬ (57 < (c : Int)) := by omega)
              | (have h1 : ((c : Int) < 97) := by omega
                 have h2 : ((c : Int) < 48) := by omega
                 have h3 : ((c : Int) != 45) = false := by simp; omega)
            have H0 := Lib.hid h0
            clear h0
            go_wp2
            refine ⟨⟨pos + 1, by omega, fun k hk hkp => ?_, rfl⟩, by simp; omega⟩
            rcases Nat.lt_succ_iff_lt_or_eq.1 hkp with h | rfl
            · exact HALL.out k hk h
            · exact av_yes (by have := HC.out; have := H0.out; omega)
        · have HAZ := Lib.hid haz
          rcases (show c < 45 ∨ (45 < c ∧ c < 48) ∨ (57 < c ∧ c < 97) ∨ 122 < c by omega) with h1 | h1 | h1 | h1
          all_goals
            first
              | (have h2 : ((c : Int) < 97) := by omega
                 have h3 : ((c : Int) < 48) := by omega
                 have h4 : ((c : Int) != 45) = true := by simp; omega)
              | (have h2 : ((c : Int) < 97) := by omega
                 have h3 : ¬ ((c : Int) < 48) := by omega
                 have h4 : (57 < (c : Int)) := by omega
                 have h5 : ((c : Int) != 45) = true := by simp; omega)
              | (have h2 : ¬ ((c : Int) < 97) := by omega
                 have h3 : (122 < (c : Int)) := by omega
                 have h4 : ¬ ((c : Int) < 48) := by omega
                 have h5 : (57 < (c : Int)) := by omega
                 have h6 : ((c : Int) != 45) = true := by simp; omega)
            clear haz h1
            go_wp2
            go_ret
            exact ⟨ret_bool (val_no hlt (av_no (by have := HC.out; have := HAZ.out; omega))), size_iter _ _ _⟩
      · have hn := fun ty => run_next_any (P := Try.prog) w s pos ty hlt
        obtain ⟨hd, _⟩ := decode_high s pos hlt (by omega)
        obtain ⟨d, hd'⟩ : ∃ d, d = (Utf8.decode s pos).1 := ⟨_, rfl⟩
        rw [← hd'] at hn hd
        have h2 : ¬ ((d : Int) < 97) := by omega
        have h3 : (122 < (d : Int)) := by omega
        have h4 : ¬ ((d : Int) < 48) := by omega
        have h5 : (57 < (d : Int)) := by omega
        have h6 : ((d : Int) != 45) = true := by simp; omega
        clear hd' hc
        go_wp2
        go_ret
        exact ⟨ret_bool (val_no hlt (av_no (by have := HC.out; omega))), size_iter _ _ _⟩
    · have hn := fun ty => run_next_end (P := Try.prog) w s pos ty hlt
      go_wp2
      all_goals
        go_ret
        refine ⟨ret_bool ?_, size_iter _ _ _⟩
        rw [← val_end fun k hk => HALL.out k hk (by omega)]
        try (first | rfl | simp [*])
theorem isLabel_any (x : Lab) (w : World) (h1 : x.name.size ≤ maxLen) (h2 : x.value.size ≤ maxLen) :
    Calls Try.prog 71 #[labV x] w fun e w' => e = .returned (.bool (labB x)) ∧ Below w.heap.size w w' := by
  obtain ⟨n, v⟩ := x
  have HN := Lib.hid fun W => isName_any n W h1
  have HV := Lib.hid fun W => isValue_any v W h2
  unfold labV labB
  simp only at h1 h2 ⊢
  cases hn : nameB n
  all_goals
    rw [hn] at HN
    go_enter Try.func71, Try.ntmps71
    go_wp2_with fail
    refine (HN.out _).mono ?_
    rintro e w' ⟨rfl, hb⟩
    obtain ⟨y1, rfl⟩ := ext_of hb
    clear hb
    first | (go_wp2_with fail; refine (HV.out _).mono ?_; rintro e w' ⟨rfl, hb⟩; obtain ⟨y2, rfl⟩ := ext_of hb; clear hb) | skip
    go_wp2_with fail
    go_ret
    refine ⟨ret_bool (by simp), (by repeat (first | exact Below.refl _ _ | apply bal | apply bext | apply bdr | apply bdrN | (refine bst ?_ _ (by simp only [ext_size, size_alloc, size_set]; omega))))⟩
end Go.Proofs.Ytndgollcganhmaa
/- Contracts of slices.IndexFunc, ContainsFunc at labels and matchers. -/
namespace Go.Proofs.Ytndgollcganhmaa
open Go.RowKit
attribute [local go_sem high] ext_size ext_cell ext_frozen alloc_cell alloc_frozen
/-- A function value is a predicate on these. -/
def PredL (f : FuncId) (caps : Array Value) (w : World) (p : Lab → Bool) (xs : List Lab) : Prop :=
  ∀ x ∈ xs, ∀ W, Below w.heap.size w W → Calls Try.prog f (#[labV x] ++ caps) W fun e W' => e = .returned (.bool (p x)) ∧ Below W.heap.size W W'
theorem indexFuncL (v : Value) (xs : List Lab) (f : FuncId) (caps : Array Value) (p : Lab → Bool) (w : World) (hS : SlAt w v 2 xs.length (labsC xs)) (hp : PredL f caps w p xs) (hf : Enters Try.prog f) :
    Calls Try.prog 77 #[v, .func (.func f) #[] caps] w fun e w' => e = .returned (.int .i64 (idxOf p xs)) ∧ Below w.heap.size w w' := by
  obtain ⟨a, c, rfl, hnc, hcm⟩ := hS.form
  have hm := hS.le
  have HS := Lib.hid hS
  have HP := Lib.hid hp
  clear hS hp
  unfold maxLen at hm
  go_enter Try.func77, Try.ntmps77
  go_wp2
  go_loopw [5, 8] (fun _ i wr => ∃ k : Nat, k ≤ xs.length ∧ i = .int .i64 k ∧ (∀ j (hj : j < xs.length), j < k → p xs[j] = false) ∧ Below w.heap.size w wr) (fun _ i _ => xs.length - (intOf i).toNat)
  case atStart => exact ⟨0, Nat.zero_le _, rfl, fun j _ hj => absurd hj (by omega), Below.refl _ _⟩
  case round =>
    obtain ⟨k, hk, rfl, hno, hbel⟩ := hrel
    have HN := Lib.hid hno
    clear hno
    obtain ⟨xr, rfl⟩ := ext_of hbel
    by_cases hlt : k < xs.length
    · obtain ⟨b, o, rfl, hbl, hcell⟩ := HS.out.at (by omega)
      have hg := labs_get xs k hlt
      have hck0 : w.cell? ⟨b, o + k * 2, none⟩ = some (.string xs[k].name) := by exact hcell _ _ hg.1
      have hck1 : w.cell? ⟨b, o + k * 2 + 1, none⟩ = some (.string xs[k].value) := by rw [Nat.add_assoc]; exact hcell _ _ hg.2
      clear hcell hg
      have hcall : Calls Try.prog f (#[Value.agg #[.string xs[k].name, .string xs[k].value]] ++ caps) (ext w xr) fun e W' => e = .returned (.bool (p xs[k])) ∧ Below (ext w xr).heap.size (ext w xr) W' := HP.out xs[k] (List.getElem_mem hlt) (ext w xr) hbel
      have he := hf (#[Value.agg #[.string xs[k].name, .string xs[k].value]] ++ caps) (ext w xr)
      cases hpx : p xs[k]
      all_goals
        rw [hpx] at hcall
        have HX := Lib.hid hpx
        have HC := Lib.hid hcall
        clear hpx hcall hbel
        go_wp2_with (refine Calls.mono HC.out ?_; rintro e w1 ⟨rfl, hb1⟩)
      · refine ⟨⟨k + 1, by omega, by go_num, fun j hj hjk => ?_, bel (ext_bel w xr) hb1⟩, by simp [intOf]; omega⟩
        rcases Nat.lt_succ_iff_lt_or_eq.1 hjk with h | rfl
        · exact HN.out j hj h
        · exact HX.out
      · go_ret
        exact ⟨ret_int (idxOf_found hlt HX.out fun j hj => HN.out j (by omega) hj).symm, bel (ext_bel w xr) hb1⟩
    · obtain rfl : k = xs.length := by omega
      go_wp2
      go_ret
      exact ⟨ret_int (idxOf_none fun j hj => HN.out j hj hj).symm, ext_bel w xr⟩
theorem containsFuncL (v : Value) (xs : List Lab) (f : FuncId) (caps : Array Value) (p : Lab → Bool) (w : World) (hS : SlAt w v 2 xs.length (labsC xs)) (hp : PredL f caps w p xs) (hf : Enters Try.prog f) :
    Calls Try.prog 69 #[v, .func (.func f) #[] caps] w fun e w' => e = .returned (.bool (xs.any p)) ∧ Below w.heap.size w w' := by
  have hi := Lib.hid (idxOf_any p xs)
  have HI := Lib.hid (indexFuncL v xs f caps p w hS hp hf)
  obtain ⟨a, c, rfl, hnc, hcm⟩ := hS.form
  clear hp hS
  go_enter Try.func69, Try.ntmps69
  go_wp2_with fail
  refine HI.out.mono ?_
  rintro e w1 ⟨rfl, hb1⟩
  go_wp2
  go_ret
  exact ⟨ret_bool hi.out, hb1⟩
/-- A function value is a predicate on these. -/
def PredM (f : FuncId) (caps : Array Value) (w : World) (p : Mat → Bool) (xs : List Mat) : Prop :=
  ∀ x ∈ xs, ∀ W, Below w.heap.size w W → Calls Try.prog f (#[matV x] ++ caps) W fun e W' => e = .returned (.bool (p x)) ∧ Below W.heap.size W W'
theorem indexFuncM (v : Value) (xs : List Mat) (f : FuncId) (caps : Array Value) (p : Mat → Bool) (w : World) (hS : SlAt w v 3 xs.length (matsC xs)) (hp : PredM f caps w p xs) (hf : Enters Try.prog f) :
    Calls Try.prog 75 #[v, .func (.func f) #[] caps] w fun e w' => e = .returned (.int .i64 (idxOf p xs)) ∧ Below w.heap.size w w' := by
  obtain ⟨a, c, rfl, hnc, hcm⟩ := hS.form
  have hm := hS.le
  have HS := Lib.hid hS
  have HP := Lib.hid hp
  clear hS hp
  unfold maxLen at hm
  go_enter Try.func75, Try.ntmps75
  go_wp2
  go_loopw [5, 8] (fun _ i wr => ∃ k : Nat, k ≤ xs.length ∧ i = .int .i64 k ∧ (∀ j (hj : j < xs.length), j < k → p xs[j] = false) ∧ Below w.heap.size w wr) (fun _ i _ => xs.length - (intOf i).toNat)
  case atStart => exact ⟨0, Nat.zero_le _, rfl, fun j _ hj => absurd hj (by omega), Below.refl _ _⟩
  case round =>
    obtain ⟨k, hk, rfl, hno, hbel⟩ := hrel
    have HN := Lib.hid hno
    clear hno
    obtain ⟨xr, rfl⟩ := ext_of hbel
    by_cases hlt : k < xs.length
    · obtain ⟨b, o, rfl, hbl, hcell⟩ := HS.out.at (by omega)
      have hg := mats_get xs k hlt
      have hck0 : w.cell? ⟨b, o + k * 3, none⟩ = some (.int .i64 xs[k].kind) := by exact hcell _ _ hg.1
      have hck1 : w.cell? ⟨b, o + k * 3 + 1, none⟩ = some (.string xs[k].name) := by rw [Nat.add_assoc]; exact hcell _ _ hg.2.1
      have hck2 : w.cell? ⟨b, o + k * 3 + 2, none⟩ = some (.string xs[k].value) := by rw [Nat.add_assoc]; exact hcell _ _ hg.2.2
      clear hcell hg
      have hcall : Calls Try.prog f (#[Value.agg #[.int .i64 xs[k].kind, .string xs[k].name, .string xs[k].value]] ++ caps) (ext w xr) fun e W' => e = .returned (.bool (p xs[k])) ∧ Below (ext w xr).heap.size (ext w xr) W' := HP.out xs[k] (List.getElem_mem hlt) (ext w xr) hbel
      have he := hf (#[Value.agg #[.int .i64 xs[k].kind, .string xs[k].name, .string xs[k].value]] ++ caps) (ext w xr)
      cases hpx : p xs[k]
      all_goals
        rw [hpx] at hcall
        have HX := Lib.hid hpx
        have HC := Lib.hid hcall
        clear hpx hcall hbel
        go_wp2_with (refine Calls.mono HC.out ?_; rintro e w1 ⟨rfl, hb1⟩)
      · refine ⟨⟨k + 1, by omega, by go_num, fun j hj hjk => ?_, bel (ext_bel w xr) hb1⟩, by simp [intOf]; omega⟩
        rcases Nat.lt_succ_iff_lt_or_eq.1 hjk with h | rfl
        · exact HN.out j hj h
        · exact HX.out
      · go_ret
        exact ⟨ret_int (idxOf_found hlt HX.out fun j hj => HN.out j (by omega) hj).symm, bel (ext_bel w xr) hb1⟩
    · obtain rfl : k = xs.length := by omega
      go_wp2
      go_ret
      exact ⟨ret_int (idxOf_none fun j hj => HN.out j hj hj).symm, ext_bel w xr⟩
theorem containsFuncM (v : Value) (xs : List Mat) (f : FuncId) (caps : Array Value) (p : Mat → Bool) (w : World) (hS : SlAt w v 3 xs.length (matsC xs)) (hp : PredM f caps w p xs) (hf : Enters Try.prog f) :
    Calls Try.prog 37 #[v, .func (.func f) #[] caps] w fun e w' => e = .returned (.bool (xs.any p)) ∧ Below w.heap.size w w' := by
  have hi := Lib.hid (idxOf_any p xs)
  have HI := Lib.hid (indexFuncM v xs f caps p w hS hp hf)
  obtain ⟨a, c, rfl, hnc, hcm⟩ := hS.form
  clear hp hS
  go_enter Try.func37, Try.ntmps37
  go_wp2_with fail
  refine HI.out.mono ?_
  rintro e w1 ⟨rfl, hb1⟩
  go_wp2
  go_ret
  exact ⟨ret_bool hi.out, hb1⟩
end Go.Proofs.Ytndgollcganhmaa
/- Contracts of cmp.Compare, label.order, each, Right, Matcher. -/
namespace Go.Proofs.Ytndgollcganhmaa
open Go.RowKit
attribute [local go_sem high] ext_size ext_cell ext_frozen alloc_cell alloc_frozen
theorem compare_any (s t : ByteArray) (w : World) :
    Calls Try.prog 74 #[.string s, .string t] w fun e w' => e = .returned (.int .i64 (cmpS s t)) ∧ w = w' := by
  unfold cmpS ltS
  go_enter Try.func74, Try.ntmps74
  go_wp2
  all_goals
    go_ret
    exact ⟨ret_int (by simp_all), rfl⟩
/-- A list of labels whose texts are no longer than a text may be. -/
def LabsOk (xs : List Lab) : Prop := ∀ x ∈ xs, x.name.size ≤ maxLen ∧ x.value.size ≤ maxLen
theorem order_any (x y : Lab) (w : World) :
    Calls Try.prog 36 #[labV x, labV y] w fun e w' => e = .returned (.int .i64 (cmpS x.name y.name)) ∧ Below w.heap.size w w' := by
  obtain ⟨n, v⟩ := x
  obtain ⟨n2, v2⟩ := y
  unfold labV
  have H := Lib.hid fun W => same_bel (compare_any n n2 W)
  go_enter Try.func36, Try.ntmps36
  go_wp2_with fail
  refine (H.out _).mono ?_
  rintro e w' ⟨rfl, hb⟩
  obtain ⟨y1, rfl⟩ := ext_of hb
  clear hb
  go_wp2_with fail
  go_ret
  exact ⟨rfl, (by repeat (first | exact Below.refl _ _ | apply bal | apply bext | apply bdr | apply bdrN | (refine bst ?_ _ (by simp only [ext_size, size_alloc, size_set]; omega))))⟩
theorem each1_any (x : Lab) (w : World) (h1 : x.name.size ≤ maxLen) (h2 : x.value.size ≤ maxLen) :
    Calls Try.prog 70 #[labV x] w fun e w' => e = .returned (.bool (!labB x)) ∧ Below w.heap.size w w' := by
  have H := Lib.hid fun W => isLabel_any x W h1 h2
  obtain ⟨n, v⟩ := x
  obtain ⟨b, hb⟩ : ∃ b, b = labB ⟨n, v⟩ := ⟨_, rfl⟩
  rw [← hb] at H ⊢
  unfold labV at *
  clear hb
  go_enter Try.func70, Try.ntmps70
  go_wp2_with fail
  refine (H.out _).mono ?_
  rintro e w' ⟨rfl, hb⟩
  obtain ⟨y1, rfl⟩ := ext_of hb
  clear hb
  go_wp2_with fail
  go_ret
  exact ⟨rfl, (by repeat (first | exact Below.refl _ _ | apply bal | apply bext | apply bdr | apply bdrN | (refine bst ?_ _ (by simp only [ext_size, size_alloc, size_set]; omega))))⟩
theorem each_any (v : Value) (xs : List Lab) (w : World) (hS : SlAt w v 2 xs.length (labsC xs)) (hL : LabsOk xs) :
    Calls Try.prog 33 #[v] w fun e w' => e = .returned (.bool (eachB xs)) ∧ Below w.heap.size w w' := by
  obtain ⟨a, c, rfl, hnc, hcm⟩ := hS.form
  have hen : Enters Try.prog 70 := enters_of Try.func70 (by kernel_rfl) rfl
  have H := Lib.hid (containsFuncL _ xs _ #[] (fun x => !labB x) w hS (fun x hx W _ => each1_any x W (hL x hx).1 (hL x hx).2) hen)
  obtain ⟨q, hq⟩ : ∃ q, q = xs.any (fun x => !labB x) := ⟨_, rfl⟩
  unfold eachB
  rw [← hq] at H ⊢
  clear hq hS hen
  by_cases c1 : 1 ≤ xs.length ∧ xs.length ≤ 3
  · obtain ⟨c1, c2⟩ := c1
    go_enter Try.func33, Try.ntmps33
    go_wp2_with fail
    refine (H.out).mono ?_
    rintro e w' ⟨rfl, hb⟩
    obtain ⟨y1, rfl⟩ := ext_of hb
    clear hb
    go_wp2_with fail
    go_ret
    exact ⟨ret_bool (by rw [decide_eq_true c1, decide_eq_true c2]; rfl), (by repeat (first | exact Below.refl _ _ | apply bal | apply bext | apply bdr | apply bdrN | (refine bst ?_ _ (by simp only [ext_size, size_alloc, size_set]; omega))))⟩
  · have hr : (decide (1 ≤ xs.length) && decide (xs.length ≤ 3)) = false := by simp; omega
    rcases (show xs.length < 1 ∨ 3 < xs.length by omega) with c2 | c2
    all_goals
      first | (have c3 : 1 ≤ xs.length := by omega) | skip
      go_enter Try.func33, Try.ntmps33
      go_wp2_with fail
      go_ret
      exact ⟨ret_bool (by first | rfl | (rw [decide_eq_false (p := xs.length ≤ 3) (by omega)]; rfl)), (by repeat (first | exact Below.refl _ _ | apply bal | apply bext | apply bdr | apply bdrN | (refine bst ?_ _ (by simp only [ext_size, size_alloc, size_set]; omega))))⟩
theorem labRight_any (v : Value) (xs : List Lab) (w : World) (hS : SlAt w v 2 xs.length (labsC xs)) (hL : LabsOk xs) :
    Calls Try.prog 15 #[v] w fun e w' => e = .returned (.bool (labsB xs)) ∧ Below w.heap.size w w' := by
  obtain ⟨a, c, rfl, hnc, hcm⟩ := hS.form
  have hm := hS.le
  have HS := Lib.hid hS
  have HE := Lib.hid fun W (h : SlAt W (Value.slice a xs.length c) 2 xs.length (labsC xs)) => each_any _ xs W h hL
  unfold maxLen at hm
  clear hS hL
  go_enter Try.func15, Try.ntmps15
  go_wp2
  go_loopw [3] (fun i wr => ∃ j : Nat, (j = 0 ∨ j + 1 ≤ xs.length) ∧ i = .int .i64 (j + 1) ∧ (∀ q (h : q + 1 < xs.length), q < j → ltS xs[q].name xs[q + 1].name = true) ∧ Below w.heap.size w wr) (fun i _ => xs.length - (intOf i).toNat)
  case atStart => exact ⟨0, .inl rfl, rfl, fun q _ h => absurd h (by omega), Below.refl _ _⟩
  case round =>
    obtain ⟨j, hj, rfl, hall, hbel⟩ := hrel
    have HA := Lib.hid hall
    clear hall
    obtain ⟨xr, rfl⟩ := ext_of hbel
    clear hbel
    by_cases hlt : j + 1 < xs.length
    · obtain ⟨b, o, rfl, hbl, hcell⟩ := HS.out.at (by omega)
      have g0 := labs_get xs j (by omega)
      have g1 := labs_get xs (j + 1) hlt
      have k0 : w.cell? ⟨b, o + j * 2, none⟩ = some (.string xs[j].name) := hcell _ _ g0.1
      have k1 : w.cell? ⟨b, o + j * 2 + 1, none⟩ = some (.string xs[j].value) := by rw [Nat.add_assoc]; exact hcell _ _ g0.2
      have k2 : w.cell? ⟨b, o + (j + 1) * 2, none⟩ = some (.string xs[j + 1].name) := hcell _ _ g1.1
      have k3 : w.cell? ⟨b, o + (j + 1) * 2 + 1, none⟩ = some (.string xs[j + 1].value) := by rw [Nat.add_assoc]; exact hcell _ _ g1.2
      clear hcell g0 g1
      obtain ⟨x, hx⟩ : ∃ x, x = xs[j] := ⟨_, rfl⟩
      obtain ⟨y, hy⟩ : ∃ y, y = xs[j + 1] := ⟨_, rfl⟩
      rw [← hx] at k0 k1
      rw [← hy] at k2 k3
      have HX := Lib.hid hx
      have HY := Lib.hid hy
      have HO := Lib.hid fun W => order_any x y W
      unfold labV at HO
      have i0 : (0 : Int) ≤ (j : Int) + 1 - 1 := by omega
      have i1 : ((j : Int) + 1) < (xs.length : Int) := by omega
      clear hx hy
      obtain ⟨q, hq⟩ : ∃ q, q = cmpS x.name y.name := ⟨_, rfl⟩
      rw [← hq] at HO
      cases hlt' : ltS x.name y.name
      · have hge : 0 ≤ q := by rw [hq]; exact cmpS_ge hlt'
        have HLT := Lib.hid hlt'
        clear hq hlt'
        go_wp2
        refine wp_region_ext (by kernel_rfl) (by kernel_rfl) ?_
        repeat (go_big_quiet_step ((first | (go_at_call 36; exact Calls.grew (HO.out _)))))
        refine wpQuiet_nil ?_
        intro _ hw'
        obtain ⟨y1, rfl⟩ := hw'
        go_wp2
        go_ret
        refine ⟨ret_bool ?_, (by repeat (first | exact Below.refl _ _ | apply bal | apply bext | apply bdr | apply bdrN | (refine bst ?_ _ (by simp only [ext_size, size_alloc, size_set]; omega))))⟩
        unfold labsB
        rw [rises_bad hlt (by rw [← HX.out, ← HY.out]; exact HLT.out)]
        rfl
      · have hge : q = -1 := by rw [hq]; exact cmpS_lt hlt'
        have HLT := Lib.hid hlt'
        clear hq hlt'
        subst hge
        go_wp2
        refine wp_region_ext (by kernel_rfl) (by kernel_rfl) ?_
        repeat (go_big_quiet_step ((first | (go_at_call 36; exact Calls.grew (HO.out _)))))
        refine wpQuiet_nil ?_
        intro _ hw'
        obtain ⟨y1, rfl⟩ := hw'
        go_wp2
        refine ⟨⟨j + 1, .inr (by omega), by go_num, fun q hq hqj => ?_, (by repeat (first | exact Below.refl _ _ | apply bal | apply bext | apply bdr | apply bdrN | (refine bst ?_ _ (by simp only [ext_size, size_alloc, size_set]; omega))))⟩, by simp [intOf]; omega⟩
        rcases Nat.lt_succ_iff_lt_or_eq.1 hqj with h | rfl
        · exact HA.out q hq h
        · rw [← HX.out, ← HY.out]
          exact HLT.out
    · have hr : risesB xs = true := rises_all fun q hq => HA.out q hq (by omega)
      have HR := Lib.hid hr
      clear hr
      go_wp2_with fail
      refine (HE.out _ (HS.out.stay (by repeat (first | exact Below.refl _ _ | apply bal | apply bext | apply bdr | apply bdrN | (refine bst ?_ _ (by simp only [ext_size, size_alloc, size_set]; omega)))))).mono ?_
      rintro e w1 ⟨rfl, hb1⟩
      obtain ⟨y1, rfl⟩ := ext_of hb1
      go_wp2
      go_ret
      refine ⟨ret_bool ?_, (by repeat (first | exact Below.refl _ _ | apply bal | apply bext | apply bdr | apply bdrN | (refine bst ?_ _ (by simp only [ext_size, size_alloc, size_set]; omega))))⟩
      unfold labsB
      rw [HR.out]
      rfl
end Go.Proofs.Ytndgollcganhmaa
/-
  DERIVED: THE SHELF's CONTRACTS AT THIS DUMP, IN PLAIN WORDS (tools/lay-plain.mjs out of 'TryShelf.lean', which tools/lay-shelf.mjs wrote): THE SAME DECLARATIONS UNDER THE SAME NAMES: 'import', 'namespace', 'open', 'def', 'theorem' AND NOTHING ELSE: no command of the shelf's: FOR A HAND-IN. Each laying: the table of numbers ('.._ren') and one theorem, a field a fact of the dump's own or the kernel's comparison; each contract: ONE APPLICATION.
-/
namespace Go.Proofs
open Go.Shelf
def Try.lays170_ren : Go.Shelf.Ren := ⟨fun | 170 => 119 | n => n, fun | 70 => 105 | 3 => 3 | 0 => 0 | 72 => 108 | 37 => 106 | 5 => 5 | n => n, fun | n => n⟩
theorem Try.lays170 : Go.Proofs.Lays.n170 Try.prog Try.lays170_ren := {
  mixed := by kernel_rfl
  f170 := Try.func119.trans (congrArg some (by kernel_rfl))
  t0 := Try.underlying0
  a0 := Try.isAgg0
  z0 := Try.sizeOf0
  v0 := Try.zeroValue0
  t3 := Try.underlying3
  a3 := Try.isAgg3
  z3 := Try.sizeOf3
  v3 := Try.zeroValue3
  t37 := Try.underlying106
  a37 := Try.isAgg106
  z37 := Try.sizeOf106
  v37 := Try.zeroValue106
  t70 := Try.underlying105
  a70 := Try.isAgg105
  z70 := Try.sizeOf105
  v70 := Try.zeroValue105
  t72 := Try.underlying108
  a72 := Try.isAgg108
  z72 := Try.sizeOf108
  v72 := Try.zeroValue108 }
open Go.RowKit in
/-- (*strings.Builder).Len: "Len returns the number of accumulated bytes; b.Len() == len(b.String()).": the world is as it was. (LAID: no walk: one application.) -/
theorem Try.Builder_Len (B b : Nat) (bs : List Value) (w : World) (h : Lib.IsBuilder 108 5 B b bs w) :
    Calls Try.prog 119 #[.pointer (some ⟨b, 0, none⟩)] w fun e w' => e = .returned (.int .i64 bs.length) ∧ w' = w := Any.Builder_Len Try.lays170 B b bs w h
def Try.lays169_ren : Go.Shelf.Ren := ⟨fun | 169 => 83 | n => n, fun | 70 => 105 | 9 => 9 | 0 => 0 | 72 => 108 | 37 => 106 | 127 => 138 | 3 => 3 | 5 => 5 | n => n, fun | n => n⟩
theorem Try.lays169 : Go.Proofs.Lays.n169 Try.prog Try.lays169_ren := {
  mixed := by kernel_rfl
  f169 := Try.func83.trans (congrArg some (by kernel_rfl))
  t0 := Try.underlying0
  a0 := Try.isAgg0
  z0 := Try.sizeOf0
  v0 := Try.zeroValue0
  t3 := Try.underlying3
  a3 := Try.isAgg3
  z3 := Try.sizeOf3
  v3 := Try.zeroValue3
  t9 := Try.underlying9
  a9 := Try.isAgg9
  z9 := Try.sizeOf9
  v9 := Try.zeroValue9
  t37 := Try.underlying106
  a37 := Try.isAgg106
  z37 := Try.sizeOf106
  v37 := Try.zeroValue106
  t70 := Try.underlying105
  a70 := Try.isAgg105
  z70 := Try.sizeOf105
  v70 := Try.zeroValue105
  t72 := Try.underlying108
  a72 := Try.isAgg108
  z72 := Try.sizeOf108
  v72 := Try.zeroValue108
  t127 := Try.underlying138
  a127 := Try.isAgg138
  z127 := Try.sizeOf138
  v127 := Try.zeroValue138 }
theorem Try.Builder_Extra_169 : Builder.Extra Try.prog Try.lays169_ren := {
  sizeBuilder := by kernel_rfl
  liesBuilder := by kernel_rfl
  t5 := Try.underlying5
  a5 := Try.isAgg5
  z5 := Try.sizeOf5
  v5 := Try.zeroValue5
  infoByte := by kernel_rfl
  cellsByte := by kernel_rfl
  sizeByte := by kernel_rfl
  neB5 := by decide }
open Go.RowKit in
/-- (*strings.Builder).String: "String returns the accumulated string.": OF A BUILDER THAT HOLDS AT LEAST ONE BYTE. ✋ THE MODEL FREEZES THOSE BYTES IN THE BUFFER (unsafe.String): a later write INTO them ends the model's run without an answer; a later append BEHIND them goes on. The statement's order of evaluation is drawn: one draw. (LAID: no walk: one application.) -/
theorem Try.Builder_String (B b : Nat) (l : List UInt8) (w : World) (h : Lib.IsBuilder 108 5 B b (Lib.byteCells l) w) (h0 : l ≠ []) :
    Calls Try.prog 83 #[.pointer (some ⟨b, 0, none⟩)] w fun e w' => e = .returned (.string ⟨l.toArray⟩) ∧ Below B w w' := Any.Builder_String Try.lays169 Try.Builder_Extra_169 B b l w h h0
open Go.RowKit in
/-- (*strings.Builder).String OF A BUILDER THAT HOLDS NO BYTE: the empty string. (Its buffer is nil, or a row of which it has taken nothing yet; where that row has NO capacity the model lays one new block for unsafe.SliceData's 'some address'.) One draw. (LAID: no walk: one application.) -/
theorem Try.Builder_String_empty (B b : Nat) (w : World) (h : Lib.IsBuilder 108 5 B b [] w) (hBw : B ≤ w.heap.size) :
    Calls Try.prog 83 #[.pointer (some ⟨b, 0, none⟩)] w fun e w' => e = .returned (.string ⟨#[]⟩) ∧ Below B w w' := Any.Builder_String_empty Try.lays169 Try.Builder_Extra_169 B b w h hBw
open Go.RowKit in
/-- (*strings.Builder).String: "String returns the accumulated string.": WHATEVER THE BUILDER HOLDS. (LAID: no walk: one application.) -/
theorem Try.Builder_String_any (B b : Nat) (l : List UInt8) (w : World) (h : Lib.IsBuilder 108 5 B b (Lib.byteCells l) w) (hBw : B ≤ w.heap.size) :
    Calls Try.prog 83 #[.pointer (some ⟨b, 0, none⟩)] w fun e w' => e = .returned (.string ⟨l.toArray⟩) ∧ Below B w w' := Any.Builder_String_any Try.lays169 Try.Builder_Extra_169 B b l w h hBw
def Try.lays241_ren : Go.Shelf.Ren := ⟨fun | 241 => 124 | 277 => 125 | n => n, fun | 70 => 105 | 3 => 3 | 0 => 0 | 72 => 108 | 37 => 106 | 5 => 5 | n => n, fun | n => n⟩
theorem Try.lays241 : Go.Proofs.Lays.n241 Try.prog Try.lays241_ren := {
  mixed := by kernel_rfl
  f241 := Try.func124.trans (congrArg some (by kernel_rfl))
  f277 := Try.func125.trans (congrArg some (by kernel_rfl))
  t0 := Try.underlying0
  a0 := Try.isAgg0
  z0 := Try.sizeOf0
  v0 := Try.zeroValue0
  t3 := Try.underlying3
  a3 := Try.isAgg3
  z3 := Try.sizeOf3
  v3 := Try.zeroValue3
  t37 := Try.underlying106
  a37 := Try.isAgg106
  z37 := Try.sizeOf106
  v37 := Try.zeroValue106
  t70 := Try.underlying105
  a70 := Try.isAgg105
  z70 := Try.sizeOf105
  v70 := Try.zeroValue105
  t72 := Try.underlying108
  a72 := Try.isAgg108
  z72 := Try.sizeOf108
  v72 := Try.zeroValue108 }
theorem Try.Builder_Extra_241 : Builder.Extra Try.prog Try.lays241_ren := {
  sizeBuilder := by kernel_rfl
  liesBuilder := by kernel_rfl
  t5 := Try.underlying5
  a5 := Try.isAgg5
  z5 := Try.sizeOf5
  v5 := Try.zeroValue5
  infoByte := by kernel_rfl
  cellsByte := by kernel_rfl
  sizeByte := by kernel_rfl
  neB5 := by decide }
open Go.RowKit in
/-- (*strings.Builder).grow (no doc but "grow copies the buffer to a new, larger buffer so that there are at least n bytes of capacity beyond len(b.buf)."): AT A BUILDER WITHOUT A BUFFER: a new row of whatever bytes for its buffer, none of them its own yet. Three draws. (LAID: no walk: one application.) -/
theorem Try.Builder_grow_fresh (B b n : Nat) (w : World) (hB : B ≤ b) (hbk : w.heap[b]? = some (.cells #[.pointer (some ⟨b, 0, none⟩), .slice none 0 0] 108 (0, 0))) (hBw : B ≤ w.heap.size) (hn : n ≤ 281474976710656) :
    Calls Try.prog 124 #[.pointer (some ⟨b, 0, none⟩), .int .i64 n] w fun e w' => e = .returned (.tuple #[]) ∧ (Lib.BuilderAt 108 5 B b (.pointer (some ⟨b, 0, none⟩)) [] w' ∧ Below B w w') := Any.Builder_grow_fresh Try.lays241 Try.Builder_Extra_241 B b n w hB hbk hBw hn
def Try.lays165_ren : Go.Shelf.Ren := ⟨fun | 165 => 118 | 240 => 116 | 241 => 124 | 276 => 121 | 277 => 125 | n => n, fun | 70 => 105 | 3 => 3 | 0 => 0 | 4 => 4 | 9 => 9 | 20 => 20 | 72 => 108 | 37 => 106 | 164 => 151 | 5 => 5 | n => n, fun | n => n⟩
theorem Try.lays165 : Go.Proofs.Lays.n165 Try.prog Try.lays165_ren := {
  mixed := by kernel_rfl
  f165 := Try.func118.trans (congrArg some (by kernel_rfl))
  f240 := Try.func116.trans (congrArg some (by kernel_rfl))
  f241 := Try.func124.trans (congrArg some (by kernel_rfl))
  f276 := Try.func121.trans (congrArg some (by kernel_rfl))
  f277 := Try.func125.trans (congrArg some (by kernel_rfl))
  t0 := Try.underlying0
  a0 := Try.isAgg0
  z0 := Try.sizeOf0
  v0 := Try.zeroValue0
  t3 := Try.underlying3
  a3 := Try.isAgg3
  z3 := Try.sizeOf3
  v3 := Try.zeroValue3
  t4 := Try.underlying4
  a4 := Try.isAgg4
  z4 := Try.sizeOf4
  v4 := Try.zeroValue4
  t9 := Try.underlying9
  a9 := Try.isAgg9
  z9 := Try.sizeOf9
  v9 := Try.zeroValue9
  t20 := Try.underlying20
  a20 := Try.isAgg20
  z20 := Try.sizeOf20
  v20 := Try.zeroValue20
  t37 := Try.underlying106
  a37 := Try.isAgg106
  z37 := Try.sizeOf106
  v37 := Try.zeroValue106
  t70 := Try.underlying105
  a70 := Try.isAgg105
  z70 := Try.sizeOf105
  v70 := Try.zeroValue105
  t72 := Try.underlying108
  a72 := Try.isAgg108
  z72 := Try.sizeOf108
  v72 := Try.zeroValue108
  t164 := Try.underlying151
  a164 := Try.isAgg151
  z164 := Try.sizeOf151
  v164 := Try.zeroValue151 }
theorem Try.Builder_Extra_165 : Builder.Extra Try.prog Try.lays165_ren := {
  sizeBuilder := by kernel_rfl
  liesBuilder := by kernel_rfl
  t5 := Try.underlying5
  a5 := Try.isAgg5
  z5 := Try.sizeOf5
  v5 := Try.zeroValue5
  infoByte := by kernel_rfl
  cellsByte := by kernel_rfl
  sizeByte := by kernel_rfl
  neB5 := by decide }
open Go.RowKit in
/-- (*strings.Builder).Grow AT A BUILDER THAT HAS NOT BEEN WRITTEN ('var b strings.Builder; b.Grow(n)'): "Grow grows b's capacity, if necessary, to guarantee space for another n bytes.": it holds no byte behind it as before it. (LAID: no walk: one application.) -/
theorem Try.Builder_Grow_fresh (B b n : Nat) (w : World) (hB : B ≤ b) (hbk : w.heap[b]? = some (.cells #[.pointer none, .slice none 0 0] 108 (0, 0))) (hBw : B ≤ w.heap.size) (hn : n ≤ 281474976710656) :
    Calls Try.prog 118 #[.pointer (some ⟨b, 0, none⟩), .int .i64 n] w fun e w' => e = .returned (.tuple #[]) ∧ (Lib.BuilderAt 108 5 B b (.pointer (some ⟨b, 0, none⟩)) [] w' ∧ Below B w w') := Any.Builder_Grow_fresh Try.lays165 Try.Builder_Extra_165 B b n w hB hbk hBw hn
def Try.lays128_ren : Go.Shelf.Ren := ⟨fun | 128 => 99 | n => n, fun | 51 => 129 | 3 => 3 | 4 => 4 | 46 => 95 | 5 => 5 | 9 => 9 | n => n, fun | n => n⟩
theorem Try.lays128 : Go.Proofs.Lays.n128 Try.prog Try.lays128_ren := {
  mixed := by kernel_rfl
  f128 := Try.func99.trans (congrArg some (by kernel_rfl))
  t3 := Try.underlying3
  a3 := Try.isAgg3
  z3 := Try.sizeOf3
  v3 := Try.zeroValue3
  t4 := Try.underlying4
  a4 := Try.isAgg4
  z4 := Try.sizeOf4
  v4 := Try.zeroValue4
  t5 := Try.underlying5
  a5 := Try.isAgg5
  z5 := Try.sizeOf5
  v5 := Try.zeroValue5
  t9 := Try.underlying9
  a9 := Try.isAgg9
  z9 := Try.sizeOf9
  v9 := Try.zeroValue9
  t46 := Try.underlying95
  a46 := Try.isAgg95
  z46 := Try.sizeOf95
  v46 := Try.zeroValue95
  t51 := Try.underlying129
  a51 := Try.isAgg129
  z51 := Try.sizeOf129
  v51 := Try.zeroValue129 }
/-- bits.Len32: "Len32 returns the minimum number of bits required to represent x; the result is 0 for x == 0.": IT RETURNS 'Lib.bitLen x'; the world is as it was. ('h0', 'h1': x is a uint32.) (LAID: no walk: one application.) -/
theorem Try.bits_Len32 (x : Int) (w : World) (h0 : 0 ≤ x) (h1 : x ≤ 4294967295) :
    Calls Try.prog 99 #[.int .u32 x] w fun e w' => e = .returned (.int .i64 (Lib.bitLen x.toNat)) ∧ w' = w := Any.bits_Len32 Try.lays128 x w h0 h1
def Try.lays125_ren : Go.Shelf.Ren := ⟨fun | 125 => 73 | 128 => 99 | 129 => 100 | n => n, fun | 46 => 95 | 3 => 3 | 51 => 129 | 53 => 131 | 4 => 4 | 5 => 5 | 9 => 9 | n => n, fun | n => n⟩
theorem Try.lays125 : Go.Proofs.Lays.n125 Try.prog Try.lays125_ren := {
  mixed := by kernel_rfl
  f125 := Try.func73.trans (congrArg some (by kernel_rfl))
  f128 := Try.func99.trans (congrArg some (by kernel_rfl))
  f129 := Try.func100.trans (congrArg some (by kernel_rfl))
  t3 := Try.underlying3
  a3 := Try.isAgg3
  z3 := Try.sizeOf3
  v3 := Try.zeroValue3
  t4 := Try.underlying4
  a4 := Try.isAgg4
  z4 := Try.sizeOf4
  v4 := Try.zeroValue4
  t5 := Try.underlying5
  a5 := Try.isAgg5
  z5 := Try.sizeOf5
  v5 := Try.zeroValue5
  t9 := Try.underlying9
  a9 := Try.isAgg9
  z9 := Try.sizeOf9
  v9 := Try.zeroValue9
  t46 := Try.underlying95
  a46 := Try.isAgg95
  z46 := Try.sizeOf95
  v46 := Try.zeroValue95
  t51 := Try.underlying129
  a51 := Try.isAgg129
  z51 := Try.sizeOf129
  v51 := Try.zeroValue129
  t53 := Try.underlying131
  a53 := Try.isAgg131
  z53 := Try.sizeOf131
  v53 := Try.zeroValue131 }
/-- bits.Len: "Len returns the minimum number of bits required to represent x; the result is 0 for x == 0.": IT RETURNS 'Lib.bitLen x'; the world is as it was. (A uint has 64 bits in the model.) ITS CALLEE bits.Len64 IS MET BY ITS OWN CONTRACT OFF THE SHELF (lay that first). (LAID: no walk: one application.) -/
theorem Try.bits_Len (x : Int) (w : World) (h0 : 0 ≤ x) (h1 : x ≤ 18446744073709551615) :
    Calls Try.prog 73 #[.int .u64 x] w fun e w' => e = .returned (.int .i64 (Lib.bitLen x.toNat)) ∧ w' = w := Any.bits_Len Try.lays125 x w h0 h1
open Go.RowKit in
/-- (*strings.Builder).Len: "Len returns the number of accumulated bytes; b.Len() == len(b.String()).": the world is as it was. (THE FORM '_f': 'Lib.IsBuilderF'.) (LAID: no walk: one application.) -/
theorem Try.Builder_Len_f (B b : Nat) (bs : List Value) (w : World) (h : Lib.IsBuilderF 108 5 B b bs w) :
    Calls Try.prog 119 #[.pointer (some ⟨b, 0, none⟩)] w fun e w' => e = .returned (.int .i64 bs.length) ∧ w' = w := Any.Builder_Len_f Try.lays170 B b bs w h
open Go.RowKit in
/-- (*strings.Builder).String: "String returns the accumulated string.": OF A BUILDER THAT HOLDS AT LEAST ONE BYTE. ✋ THE MODEL FREEZES THOSE BYTES IN THE BUFFER (unsafe.String): a later write INTO them ends the model's run without an answer; a later append BEHIND them goes on. The statement's order of evaluation is drawn: one draw. THE FORM '_f': IT SAYS BESIDES THAT THE BUILDER IS A BUILDER STILL ('Lib.IsBuilderF', the same bytes): SO IT CAN BE WRITTEN ON: 'b.WriteString(b.String()[:k])'. (LAID: no walk: one application.) -/
theorem Try.Builder_String_f (B b : Nat) (l : List UInt8) (w : World) (h : Lib.IsBuilderF 108 5 B b (Lib.byteCells l) w) (h0 : l ≠ []) :
    Calls Try.prog 83 #[.pointer (some ⟨b, 0, none⟩)] w fun e w' => e = .returned (.string ⟨l.toArray⟩) ∧ (Lib.IsBuilderF 108 5 B b (Lib.byteCells l) w' ∧ Below B w w') := Any.Builder_String_f Try.lays169 Try.Builder_Extra_169 B b l w h h0
open Go.RowKit in
/-- (*strings.Builder).String OF A BUILDER THAT HOLDS NO BYTE: the empty string; THE FORM '_f': a builder still. (LAID: no walk: one application.) -/
theorem Try.Builder_String_empty_f (B b : Nat) (w : World) (h : Lib.IsBuilderF 108 5 B b [] w) (hBw : B ≤ w.heap.size) :
    Calls Try.prog 83 #[.pointer (some ⟨b, 0, none⟩)] w fun e w' => e = .returned (.string ⟨#[]⟩) ∧ (Lib.IsBuilderF 108 5 B b [] w' ∧ Below B w w') := Any.Builder_String_empty_f Try.lays169 Try.Builder_Extra_169 B b w h hBw
open Go.RowKit in
/-- (*strings.Builder).String: "String returns the accumulated string.": WHATEVER THE BUILDER HOLDS; THE FORM '_f': OF A BUILDER THAT MAY HAVE BEEN READ BEFORE; AND IT IS A BUILDER STILL, holding the same bytes: it can be written on. (LAID: no walk: one application.) -/
theorem Try.Builder_String_any_f (B b : Nat) (l : List UInt8) (w : World) (h : Lib.IsBuilderF 108 5 B b (Lib.byteCells l) w) (hBw : B ≤ w.heap.size) :
    Calls Try.prog 83 #[.pointer (some ⟨b, 0, none⟩)] w fun e w' => e = .returned (.string ⟨l.toArray⟩) ∧ (Lib.IsBuilderF 108 5 B b (Lib.byteCells l) w' ∧ Below B w w') := Any.Builder_String_any_f Try.lays169 Try.Builder_Extra_169 B b l w h hBw
open Go.RowKit in
/-- (*strings.Builder).String: "String returns the accumulated string.": OF A BUILDER THAT HOLDS AT LEAST ONE BYTE. ✋ THE MODEL FREEZES THOSE BYTES IN THE BUFFER (unsafe.String): a later write INTO them ends the model's run without an answer; a later append BEHIND them goes on. The statement's order of evaluation is drawn: one draw. THE FORM '_k': OVER 'Lib.IsBuilderF' (a builder that 'String()' may have read), AND WITH THE FRAME THAT REACHES ABOVE THE BUILDER: 'Lib.OthersKept': every block that is not b and is no row of uint8's stands as it stood: the iterator of a range among them. (LAID: no walk: one application.) -/
theorem Try.Builder_String_k (B b : Nat) (l : List UInt8) (w : World) (h : Lib.IsBuilderF 108 5 B b (Lib.byteCells l) w) (h0 : l ≠ []) :
    Calls Try.prog 83 #[.pointer (some ⟨b, 0, none⟩)] w fun e w' => e = .returned (.string ⟨l.toArray⟩) ∧ (Lib.IsBuilderF 108 5 B b (Lib.byteCells l) w' ∧ Below B w w' ∧ Lib.OthersKept 5 (some b) w w') := Any.Builder_String_k Try.lays169 Try.Builder_Extra_169 B b l w h h0
open Go.RowKit in
/-- (*strings.Builder).String OF A BUILDER THAT HOLDS NO BYTE: the empty string; THE FORM '_k': OVER 'Lib.IsBuilderF' (a builder that 'String()' may have read), AND WITH THE FRAME THAT REACHES ABOVE THE BUILDER: 'Lib.OthersKept': every block that is not b and is no row of uint8's stands as it stood: the iterator of a range among them. (LAID: no walk: one application.) -/
theorem Try.Builder_String_empty_k (B b : Nat) (w : World) (h : Lib.IsBuilderF 108 5 B b [] w) (hBw : B ≤ w.heap.size) :
    Calls Try.prog 83 #[.pointer (some ⟨b, 0, none⟩)] w fun e w' => e = .returned (.string ⟨#[]⟩) ∧ (Lib.IsBuilderF 108 5 B b [] w' ∧ Below B w w' ∧ Lib.OthersKept 5 (some b) w w') := Any.Builder_String_empty_k Try.lays169 Try.Builder_Extra_169 B b w h hBw
open Go.RowKit in
/-- (*strings.Builder).String: "String returns the accumulated string.": WHATEVER THE BUILDER HOLDS; THE FORM '_k': OVER 'Lib.IsBuilderF' (a builder that 'String()' may have read), AND WITH THE FRAME THAT REACHES ABOVE THE BUILDER: 'Lib.OthersKept': every block that is not b and is no row of uint8's stands as it stood: the iterator of a range among them. (LAID: no walk: one application.) -/
theorem Try.Builder_String_any_k (B b : Nat) (l : List UInt8) (w : World) (h : Lib.IsBuilderF 108 5 B b (Lib.byteCells l) w) (hBw : B ≤ w.heap.size) :
    Calls Try.prog 83 #[.pointer (some ⟨b, 0, none⟩)] w fun e w' => e = .returned (.string ⟨l.toArray⟩) ∧ (Lib.IsBuilderF 108 5 B b (Lib.byteCells l) w' ∧ Below B w w' ∧ Lib.OthersKept 5 (some b) w w') := Any.Builder_String_any_k Try.lays169 Try.Builder_Extra_169 B b l w h hBw
open Go.RowKit in
/-- (*strings.Builder).grow (no doc but "grow copies the buffer to a new, larger buffer so that there are at least n bytes of capacity beyond len(b.buf)."): AT A BUILDER WITHOUT A BUFFER: a new row of whatever bytes for its buffer, none of them its own yet. Three draws. (LAID: no walk: one application.) -/
theorem Try.Builder_grow_fresh_cap (B b n : Nat) (w : World) (hB : B ≤ b) (hbk : w.heap[b]? = some (.cells #[.pointer (some ⟨b, 0, none⟩), .slice none 0 0] 108 (0, 0))) (hBw : B ≤ w.heap.size) (hn : n ≤ 281474976710656) :
    Calls Try.prog 124 #[.pointer (some ⟨b, 0, none⟩), .int .i64 n] w fun e w' => e = .returned (.tuple #[]) ∧ (Lib.BuilderAt 108 5 B b (.pointer (some ⟨b, 0, none⟩)) [] w' ∧ Below B w w') ∧ ∃ p cap, w'.cell? ⟨b, 1, none⟩ = some (.slice p 0 cap) ∧ n ≤ cap := Any.Builder_grow_fresh_cap Try.lays241 Try.Builder_Extra_241 B b n w hB hbk hBw hn
open Go.RowKit in
/-- (*strings.Builder).Grow AT A BUILDER THAT HAS NOT BEEN WRITTEN ('var b strings.Builder; b.Grow(n)'): "Grow grows b's capacity, if necessary, to guarantee space for another n bytes.": it holds no byte behind it as before it. (LAID: no walk: one application.) -/
theorem Try.Builder_Grow_fresh_cap (B b n : Nat) (w : World) (hB : B ≤ b) (hbk : w.heap[b]? = some (.cells #[.pointer none, .slice none 0 0] 108 (0, 0))) (hBw : B ≤ w.heap.size) (hn : n ≤ 281474976710656) :
    Calls Try.prog 118 #[.pointer (some ⟨b, 0, none⟩), .int .i64 n] w fun e w' => e = .returned (.tuple #[]) ∧ (Lib.BuilderAt 108 5 B b (.pointer (some ⟨b, 0, none⟩)) [] w' ∧ Below B w w') ∧ ∃ p cap, w'.cell? ⟨b, 1, none⟩ = some (.slice p 0 cap) ∧ n ≤ cap := Any.Builder_Grow_fresh_cap Try.lays165 Try.Builder_Extra_165 B b n w hB hbk hBw hn
def Try.lays129_ren : Go.Shelf.Ren := ⟨fun | 129 => 100 | n => n, fun | 53 => 131 | 3 => 3 | 4 => 4 | 46 => 95 | 5 => 5 | 9 => 9 | n => n, fun | n => n⟩
theorem Try.lays129 : Go.Proofs.Lays.n129 Try.prog Try.lays129_ren := {
  mixed := by kernel_rfl
  f129 := Try.func100.trans (congrArg some (by kernel_rfl))
  t3 := Try.underlying3
  a3 := Try.isAgg3
  z3 := Try.sizeOf3
  v3 := Try.zeroValue3
  t4 := Try.underlying4
  a4 := Try.isAgg4
  z4 := Try.sizeOf4
  v4 := Try.zeroValue4
  t5 := Try.underlying5
  a5 := Try.isAgg5
  z5 := Try.sizeOf5
  v5 := Try.zeroValue5
  t9 := Try.underlying9
  a9 := Try.isAgg9
  z9 := Try.sizeOf9
  v9 := Try.zeroValue9
  t46 := Try.underlying95
  a46 := Try.isAgg95
  z46 := Try.sizeOf95
  v46 := Try.zeroValue95
  t53 := Try.underlying131
  a53 := Try.isAgg131
  z53 := Try.sizeOf131
  v53 := Try.zeroValue131 }
/-- bits.Len64: "Len64 returns the minimum number of bits required to represent x; the result is 0 for x == 0.": IT RETURNS 'Lib.bitLen x'; the world is as it was. ('h0', 'h1': x is a uint64.) (LAID: no walk: one application.) -/
theorem Try.bits_Len64 (x : Int) (w : World) (h0 : 0 ≤ x) (h1 : x ≤ 18446744073709551615) :
    Calls Try.prog 100 #[.int .u64 x] w fun e w' => e = .returned (.int .i64 (Lib.bitLen x.toNat)) ∧ w' = w := Any.bits_Len64 Try.lays129 x w h0 h1
def Try.lays206_ren : Go.Shelf.Ren := ⟨fun | 206 => 115 | n => n, fun | 9 => 9 | 4 => 4 | 3 => 3 | n => n, fun | n => n⟩
theorem Try.lays206 : Go.Proofs.Lays.n206 Try.prog Try.lays206_ren := {
  mixed := by kernel_rfl
  f206 := Try.func115.trans (congrArg some (by kernel_rfl))
  t3 := Try.underlying3
  a3 := Try.isAgg3
  z3 := Try.sizeOf3
  v3 := Try.zeroValue3
  t4 := Try.underlying4
  a4 := Try.isAgg4
  z4 := Try.sizeOf4
  v4 := Try.zeroValue4
  t9 := Try.underlying9
  a9 := Try.isAgg9
  z9 := Try.sizeOf9
  v9 := Try.zeroValue9 }
open Go.RowKit Go.Lib in
/-- internal/stringslite.HasPrefix (what strings.HasPrefix calls). (LAID: no walk: one application.) -/
theorem Try.stringslite_HasPrefix (s p : ByteArray) (w : World) :
    Calls Try.prog 115 #[.string s, .string p] w fun e w' => e = .returned (.bool (Lib.hasPrefix s.data.toList p.data.toList)) ∧ w' = w := Any.stringslite_HasPrefix Try.lays206 s p w
def Try.lays99_ren : Go.Shelf.Ren := ⟨fun | 99 => 104 | 206 => 115 | n => n, fun | 9 => 9 | 4 => 4 | 3 => 3 | n => n, fun | n => n⟩
theorem Try.lays99 : Go.Proofs.Lays.n99 Try.prog Try.lays99_ren := {
  mixed := by kernel_rfl
  f99 := Try.func104.trans (congrArg some (by kernel_rfl))
  f206 := Try.func115.trans (congrArg some (by kernel_rfl))
  t3 := Try.underlying3
  a3 := Try.isAgg3
  z3 := Try.sizeOf3
  v3 := Try.zeroValue3
  t4 := Try.underlying4
  a4 := Try.isAgg4
  z4 := Try.sizeOf4
  v4 := Try.zeroValue4
  t9 := Try.underlying9
  a9 := Try.isAgg9
  z9 := Try.sizeOf9
  v9 := Try.zeroValue9 }
open Go.RowKit Go.Lib in
/-- strings.HasPrefix: "HasPrefix reports whether the string s begins with prefix.": IT RETURNS 'Lib.hasPrefix s prefix'; the world is as it was. (LAID: no walk: one application.) -/
theorem Try.strings_HasPrefix (s p : ByteArray) (w : World) :
    Calls Try.prog 104 #[.string s, .string p] w fun e w' => e = .returned (.bool (Lib.hasPrefix s.data.toList p.data.toList)) ∧ w' = w := Any.strings_HasPrefix Try.lays99 s p w
def Try.lays264_ren : Go.Shelf.Ren := ⟨fun | 264 => 123 | n => n, fun | 53 => 131 | 46 => 95 | n => n, fun | n => n⟩
theorem Try.lays264 : Go.Proofs.Lays.n264 Try.prog Try.lays264_ren := {
  mixed := by kernel_rfl
  f264 := Try.func123.trans (congrArg some (by kernel_rfl))
  t46 := Try.underlying95
  a46 := Try.isAgg95
  z46 := Try.sizeOf95
  v46 := Try.zeroValue95
  t53 := Try.underlying131
  a53 := Try.isAgg131
  z53 := Try.sizeOf131
  v53 := Try.zeroValue131 }
open Go.RowKit Go.Lib in
theorem Try.bits_Mul64 (x y : Nat) (hx : x < 18446744073709551616) (hy : y < 18446744073709551616) (w : World) :
    Calls Try.prog 123 #[.int .u64 x, .int .u64 y] w fun e w' => e = .returned (.tuple #[.int .u64 ((x * y / 18446744073709551616 : Nat) : Int), .int .u64 ((x * y % 18446744073709551616 : Nat) : Int)]) ∧ w' = w := Any.bits_Mul64 Try.lays264 x y hx hy w
def Try.lays212_ren : Go.Shelf.Ren := ⟨fun | 212 => 117 | 263 => 122 | 264 => 123 | n => n, fun | 46 => 95 | 51 => 129 | 146 => 153 | 53 => 131 | 148 => 155 | n => n, fun | n => n⟩
theorem Try.lays212 : Go.Proofs.Lays.n212 Try.prog Try.lays212_ren := {
  mixed := by kernel_rfl
  f212 := Try.func117.trans (congrArg some (by kernel_rfl))
  f263 := Try.func122.trans (congrArg some (by kernel_rfl))
  f264 := Try.func123.trans (congrArg some (by kernel_rfl))
  t46 := Try.underlying95
  a46 := Try.isAgg95
  z46 := Try.sizeOf95
  v46 := Try.zeroValue95
  t51 := Try.underlying129
  a51 := Try.isAgg129
  z51 := Try.sizeOf129
  v51 := Try.zeroValue129
  t53 := Try.underlying131
  a53 := Try.isAgg131
  z53 := Try.sizeOf131
  v53 := Try.zeroValue131
  t146 := Try.underlying153
  a146 := Try.isAgg153
  z146 := Try.sizeOf153
  v146 := Try.zeroValue153
  t148 := Try.underlying155
  a148 := Try.isAgg155
  z148 := Try.sizeOf155
  v148 := Try.zeroValue155 }
open Go.RowKit Go.Lib in
/-- math/bits.Mul: "Mul returns the full-width product of x and y": on a machine of 64 bits: Mul64's. (LAID: no walk: one application.) -/
theorem Try.bits_Mul (x y : Nat) (hx : x < 18446744073709551616) (hy : y < 18446744073709551616) (w : World) :
    Calls Try.prog 117 #[.int .u64 x, .int .u64 y] w fun e w' => e = .returned (.tuple #[.int .u64 ((x * y / 18446744073709551616 : Nat) : Int), .int .u64 ((x * y % 18446744073709551616 : Nat) : Int)]) ∧ w' = w := Any.bits_Mul Try.lays212 x y hx hy w
def Try.lays105_ren : Go.Shelf.Ren := ⟨fun | 105 => 109 | 212 => 117 | 99 => 104 | 165 => 118 | 166 => 107 | 170 => 119 | 169 => 83 | 263 => 122 | 264 => 123 | 206 => 115 | 240 => 116 | 241 => 124 | 276 => 121 | 277 => 125 | n => n, fun | 9 => 9 | 3 => 3 | 4 => 4 | 20 => 20 | 0 => 0 | 46 => 95 | 109 => 146 | 5 => 5 | 72 => 108 | 76 => 136 | 51 => 129 | 146 => 153 | 53 => 131 | 148 => 155 | 70 => 105 | 37 => 106 | 75 => 134 | 127 => 138 | 164 => 151 | 80 => 115 | n => n, fun | n => n⟩
theorem Try.lays105 : Go.Proofs.Lays.n105 Try.prog Try.lays105_ren := {
  mixed := by kernel_rfl
  f99 := Try.func104.trans (congrArg some (by kernel_rfl))
  f105 := Try.func109.trans (congrArg some (by kernel_rfl))
  f165 := Try.func118.trans (congrArg some (by kernel_rfl))
  f166 := Try.func107.trans (congrArg some (by kernel_rfl))
  f169 := Try.func83.trans (congrArg some (by kernel_rfl))
  f170 := Try.func119.trans (congrArg some (by kernel_rfl))
  f206 := Try.func115.trans (congrArg some (by kernel_rfl))
  f212 := Try.func117.trans (congrArg some (by kernel_rfl))
  f240 := Try.func116.trans (congrArg some (by kernel_rfl))
  f241 := Try.func124.trans (congrArg some (by kernel_rfl))
  f263 := Try.func122.trans (congrArg some (by kernel_rfl))
  f264 := Try.func123.trans (congrArg some (by kernel_rfl))
  f276 := Try.func121.trans (congrArg some (by kernel_rfl))
  f277 := Try.func125.trans (congrArg some (by kernel_rfl))
  t0 := Try.underlying0
  a0 := Try.isAgg0
  z0 := Try.sizeOf0
  v0 := Try.zeroValue0
  t3 := Try.underlying3
  a3 := Try.isAgg3
  z3 := Try.sizeOf3
  v3 := Try.zeroValue3
  t4 := Try.underlying4
  a4 := Try.isAgg4
  z4 := Try.sizeOf4
  v4 := Try.zeroValue4
  t5 := Try.underlying5
  a5 := Try.isAgg5
  z5 := Try.sizeOf5
  v5 := Try.zeroValue5
  t9 := Try.underlying9
  a9 := Try.isAgg9
  z9 := Try.sizeOf9
  v9 := Try.zeroValue9
  t20 := Try.underlying20
  a20 := Try.isAgg20
  z20 := Try.sizeOf20
  v20 := Try.zeroValue20
  t37 := Try.underlying106
  a37 := Try.isAgg106
  z37 := Try.sizeOf106
  v37 := Try.zeroValue106
  t46 := Try.underlying95
  a46 := Try.isAgg95
  z46 := Try.sizeOf95
  v46 := Try.zeroValue95
  t51 := Try.underlying129
  a51 := Try.isAgg129
  z51 := Try.sizeOf129
  v51 := Try.zeroValue129
  t53 := Try.underlying131
  a53 := Try.isAgg131
  z53 := Try.sizeOf131
  v53 := Try.zeroValue131
  t70 := Try.underlying105
  a70 := Try.isAgg105
  z70 := Try.sizeOf105
  v70 := Try.zeroValue105
  t72 := Try.underlying108
  a72 := Try.isAgg108
  z72 := Try.sizeOf108
  v72 := Try.zeroValue108
  t75 := Try.underlying134
  a75 := Try.isAgg134
  z75 := Try.sizeOf134
  v75 := Try.zeroValue134
  t76 := Try.underlying136
  a76 := Try.isAgg136
  z76 := Try.sizeOf136
  v76 := Try.zeroValue136
  t109 := Try.underlying146
  a109 := Try.isAgg146
  z109 := Try.sizeOf146
  v109 := Try.zeroValue146
  t127 := Try.underlying138
  a127 := Try.isAgg138
  z127 := Try.sizeOf138
  v127 := Try.zeroValue138
  t146 := Try.underlying153
  a146 := Try.isAgg153
  z146 := Try.sizeOf153
  v146 := Try.zeroValue153
  t148 := Try.underlying155
  a148 := Try.isAgg155
  z148 := Try.sizeOf155
  v148 := Try.zeroValue155
  t164 := Try.underlying151
  a164 := Try.isAgg151
  z164 := Try.sizeOf151
  v164 := Try.zeroValue151 }
theorem Try.Builder_Extra_105 : Builder.Extra Try.prog Try.lays105_ren := {
  sizeBuilder := by kernel_rfl
  liesBuilder := by kernel_rfl
  t5 := Try.underlying5
  a5 := Try.isAgg5
  z5 := Try.sizeOf5
  v5 := Try.zeroValue5
  infoByte := by kernel_rfl
  cellsByte := by kernel_rfl
  sizeByte := by kernel_rfl
  neB5 := by decide }
open Go.RowKit Go.Lib in
/-- THE MAIN CASE: at least two copies of a string that is not empty. (LAID: no walk: one application.) -/
theorem Try.strings_Repeat_main (s : ByteArray) (c : Nat) (w : World) (hc2 : 2 ≤ c) (hc : c ≤ 9223372036854775807) (hlen : s.size * c ≤ 140737488355328) (h0 : 0 < s.size) :
    Calls Try.prog 109 #[.string s, .int .i64 c] w fun e w' => e = .returned (.string ⟨(Lib.repeatL s.data.toList c).toArray⟩) ∧ Below w.heap.size w w' := Any.strings_Repeat_main Try.lays105 Try.Builder_Extra_105 s c w hc2 hc hlen h0
open Go.RowKit Go.Lib in
theorem Try.strings_Repeat_zero (s : ByteArray) (w : World) :
    Calls Try.prog 109 #[.string s, .int .i64 0] w fun e w' => e = .returned (.string ⟨#[]⟩) ∧ w' = w := Any.strings_Repeat_zero Try.lays105 s w
open Go.RowKit Go.Lib in
theorem Try.strings_Repeat_one (s : ByteArray) (w : World) :
    Calls Try.prog 109 #[.string s, .int .i64 1] w fun e w' => e = .returned (.string s) ∧ w' = w := Any.strings_Repeat_one Try.lays105 s w
open Go.RowKit Go.Lib in
/-- Copies of the empty string. (LAID: no walk: one application.) -/
theorem Try.strings_Repeat_empty (s : ByteArray) (c : Nat) (w : World) (hc2 : 2 ≤ c) (hc : c ≤ 9223372036854775807) (h0 : s.size = 0) :
    Calls Try.prog 109 #[.string s, .int .i64 c] w fun e w' => e = .returned (.string ⟨#[]⟩) ∧ w' = w := Any.strings_Repeat_empty Try.lays105 s c w hc2 hc h0
open Go.RowKit Go.Lib in
/-- count < 0: "It panics if count is negative". (LAID: no walk: one application.) -/
theorem Try.strings_Repeat_negative (s : ByteArray) (c : Int) (w : World) (hc : c < 0) :
    Calls Try.prog 109 #[.string s, .int .i64 c] w fun e w' => e = .panicked [{ v := repeatPanic Try.lays105_ren "strings: negative Repeat count", recovered := false }] ∧ w' = w := Any.strings_Repeat_negative Try.lays105 s c w hc
open Go.RowKit Go.Lib in
/-- len(s) * count is no int: ".. or if the result of (len(s) * count) overflows". (LAID: no walk: one application.) -/
theorem Try.strings_Repeat_overflow (s : ByteArray) (c : Nat) (w : World) (hc : c ≤ 9223372036854775807) (hs : s.size ≤ 9223372036854775807) (hbig : 9223372036854775807 < s.size * c) :
    Calls Try.prog 109 #[.string s, .int .i64 c] w fun e w' => e = .panicked [{ v := repeatPanic Try.lays105_ren "strings: Repeat output length overflow", recovered := false }] ∧ w' = w := Any.strings_Repeat_overflow Try.lays105 s c w hc hs hbig
open Go.RowKit Go.Lib in
/-- **strings.Repeat: count ≥ 0, the result within one allocation: count copies of s.** (LAID: no walk: one application.) -/
theorem Try.strings_Repeat (s : ByteArray) (c : Nat) (w : World) (hc : c ≤ 9223372036854775807) (hlen : s.size * c ≤ 140737488355328) :
    Calls Try.prog 109 #[.string s, .int .i64 c] w fun e w' => e = .returned (.string ⟨(Lib.repeatL s.data.toList c).toArray⟩) ∧ Below w.heap.size w w' := Any.strings_Repeat Try.lays105 Try.Builder_Extra_105 s c w hc hlen
end Go.Proofs
/- Contracts of label.Matcher, kinds, match, All. -/
namespace Go.Proofs.Ytndgollcganhmaa
open Go.RowKit
attribute [local go_sem high] ext_size ext_cell ext_frozen alloc_cell alloc_frozen
attribute [local go_sem] lt_more lt_suc drew_size drew_cell
theorem empty_dec (s : ByteArray) : s.toList.isEmpty = decide (s.size = 0) := by
  have := nonempty_dec s
  cases h : s.toList.isEmpty
  · rw [h] at this
    have h1 : 1 ≤ s.size := by simpa using this.symm
    rw [decide_eq_false (by omega)]
  · rw [h] at this
    have h1 : ¬ 1 ≤ s.size := by simpa using this.symm
    rw [decide_eq_true (by omega)]
def MatsOk (xs : List Mat) : Prop := ∀ x ∈ xs, x.name.size ≤ maxLen ∧ x.value.size ≤ maxLen
theorem matcher_any (x : Mat) (w : World) (h1 : x.name.size ≤ maxLen) (h2 : x.value.size ≤ maxLen) :
    Calls Try.prog 19 #[matV x] w fun e w' => e = .returned (.bool (matB x)) ∧ Below w.heap.size w w' := by
  obtain ⟨k, n, v⟩ := x
  have HN := Lib.hid fun W => isName_any n W h1
  have HV := Lib.hid fun W => isValue_any v W h2
  unfold matV matB
  simp only at h1 h2 ⊢
  obtain ⟨b1, hb1⟩ : ∃ b, b = nameB n := ⟨_, rfl⟩
  obtain ⟨b2, hb2⟩ : ∃ b, b = valB v := ⟨_, rfl⟩
  rw [← hb1] at HN ⊢
  rw [← hb2] at HV ⊢
  clear hb1 hb2
  have he := empty_dec v
  by_cases c1 : 0 ≤ k ∧ k ≤ 3
  · obtain ⟨c1, c2⟩ := c1
    cases b1
    case false =>
      go_enter Try.func19, Try.ntmps19
      go_wp2_with fail
      refine (HN.out _).mono ?_
      rintro e w' ⟨rfl, hb⟩
      obtain ⟨y1, rfl⟩ := ext_of hb
      clear hb
      go_wp2_with fail
      go_ret
      exact ⟨ret_bool (by simp [c1, c2]), (by repeat (first | exact Below.refl _ _ | apply bal | apply bext | apply bdr | apply bdrN | (refine bst ?_ _ (by simp only [ext_size, size_alloc, size_set]; omega))))⟩
    case true =>
      cases b2
      case false =>
        go_enter Try.func19, Try.ntmps19
        go_wp2_with fail
        refine (HN.out _).mono ?_
        rintro e w' ⟨rfl, hb⟩
        obtain ⟨y1, rfl⟩ := ext_of hb
        clear hb
        go_wp2_with fail
        refine (HV.out _).mono ?_
        rintro e w' ⟨rfl, hb⟩
        obtain ⟨y2, rfl⟩ := ext_of hb
        clear hb
        go_wp2_with fail
        go_ret
        exact ⟨ret_bool (by simp [c1, c2]), (by repeat (first | exact Below.refl _ _ | apply bal | apply bext | apply bdr | apply bdrN | (refine bst ?_ _ (by simp only [ext_size, size_alloc, size_set]; omega))))⟩
      case true =>
        by_cases c3 : k = 3
        · subst c3
          have HE := Lib.hid he
          clear he
          go_enter Try.func19, Try.ntmps19
          go_wp2_with fail
          refine (HN.out _).mono ?_
          rintro e w' ⟨rfl, hb⟩
          obtain ⟨y1, rfl⟩ := ext_of hb
          clear hb
          go_wp2_with fail
          refine (HV.out _).mono ?_
          rintro e w' ⟨rfl, hb⟩
          obtain ⟨y2, rfl⟩ := ext_of hb
          clear hb
          go_wp2_with fail
          all_goals
            go_ret
            refine ⟨ret_bool ?_, (by repeat (first | exact Below.refl _ _ | apply bal | apply bext | apply bdr | apply bdrN | (refine bst ?_ _ (by simp only [ext_size, size_alloc, size_set]; omega))))⟩
            have := HE.out
            simp_all
        · have c4 : (k != 3) = true := by simpa using c3
          clear he
          go_enter Try.func19, Try.ntmps19
          go_wp2_with fail
          refine (HN.out _).mono ?_
          rintro e w' ⟨rfl, hb⟩
          obtain ⟨y1, rfl⟩ := ext_of hb
          clear hb
          go_wp2_with fail
          refine (HV.out _).mono ?_
          rintro e w' ⟨rfl, hb⟩
          obtain ⟨y2, rfl⟩ := ext_of hb
          clear hb
          go_wp2_with fail
          go_ret
          exact ⟨ret_bool (by simp [c1, c2, c3]), (by repeat (first | exact Below.refl _ _ | apply bal | apply bext | apply bdr | apply bdrN | (refine bst ?_ _ (by simp only [ext_size, size_alloc, size_set]; omega))))⟩
  · clear he
    rcases (show k < 0 ∨ 3 < k by omega) with c2 | c2
    all_goals
      go_enter Try.func19, Try.ntmps19
      go_wp2_with fail
      all_goals
        go_ret
        refine ⟨ret_bool ?_, (by repeat (first | exact Below.refl _ _ | apply bal | apply bext | apply bdr | apply bdrN | (refine bst ?_ _ (by simp only [ext_size, size_alloc, size_set]; omega))))⟩
        first
          | (rw [decide_eq_false (p := 0 ≤ k) (by omega)]; rfl)
          | (rw [decide_eq_false (p := k ≤ 3) (by omega)]; simp)
def kindsV : Value := .agg #[.func (.func 102) #[] #[], .bool false, .func (.func 103) #[] #[], .bool true, .func (.func 104) #[] #[], .bool false, .func (.func 105) #[] #[], .bool false]
theorem kinds_any (w : World) :
    Calls Try.prog 76 #[] w fun e w' => e = .returned kindsV ∧ Below w.heap.size w w' := by
  go_enter Try.func76, Try.ntmps76
  go_wp2_with fail
  refine bodyPost_ret (v := kindsV) ?_ rfl ⟨rfl, (by repeat (first | exact Below.refl _ _ | apply bal | apply bext | apply bdr | apply bdrN | (refine bst ?_ _ (by simp only [ext_size, size_alloc, size_set]; omega))))⟩
  simp [results, Try.results76, go_sem, kindsV]
theorem match1_any (x : Lab) (g : Nat) (nm : ByteArray) (w : World) (hc : w.cell? ⟨g, 1, none⟩ = some (.string nm)) (hg : g < w.heap.size) :
    Calls Try.prog 78 #[labV x, .pointer (some ⟨g, 0, none⟩)] w fun e w' => e = .returned (.bool (x.name.toList == nm.toList)) ∧ Below w.heap.size w w' := by
  obtain ⟨n, v⟩ := x
  unfold labV
  go_enter Try.func78, Try.ntmps78
  go_wp2_with fail
  go_ret
  exact ⟨rfl, (by repeat (first | exact Below.refl _ _ | apply bal | apply bext | apply bdr | apply bdrN | (refine bst ?_ _ (by simp only [ext_size, size_alloc, size_set]; omega))))⟩
theorem of0_any (s t : ByteArray) (w : World) : Calls Try.prog 102 #[.string s, .string t] w fun e w' => e = .returned (.bool (ofB 0 s t)) ∧ w = w' := by
  go_enter Try.func102, Try.ntmps102
  go_wp2_with fail
  go_ret
  exact ⟨rfl, rfl⟩
theorem of1_any (s t : ByteArray) (w : World) : Calls Try.prog 103 #[.string s, .string t] w fun e w' => e = .returned (.bool (ofB 1 s t)) ∧ w = w' := by
  go_enter Try.func103, Try.ntmps103
  go_wp2_with fail
  go_ret
  exact ⟨rfl, rfl⟩
theorem of2_any (s t : ByteArray) (w : World) : Calls Try.prog 104 #[.string s, .string t] w fun e w' => e = .returned (.bool (ofB 2 s t)) ∧ w = w' :=
  (Try.strings_HasPrefix s t w).mono fun e w' ⟨h1, h2⟩ => ⟨h1, h2.symm⟩
theorem of3_any (s t : ByteArray) (w : World) : Calls Try.prog 105 #[.string s, .string t] w fun e w' => e = .returned (.bool (ofB 3 s t)) ∧ w = w' := by
  go_enter Try.func105, Try.ntmps105
  go_wp2_with fail
  go_ret
  exact ⟨rfl, rfl⟩
theorem kind_of (k : Int) (hk : 0 ≤ k ∧ k ≤ 3) : ∃ (F : FuncId) (b : Bool), (∀ W, (Instr.index 101 kindsV (.int .i64 k)).run Try.prog W = .ok (.agg #[.func (.func F) #[] #[], .bool b]) W) ∧ b = decide (k = 1) ∧ Enters Try.prog F ∧
    ∀ s t W, Calls Try.prog F #[.string s, .string t] W fun e w' => e = .returned (.bool (ofB k s t)) ∧ Below W.heap.size W w' := by
  rcases (show k = 0 ∨ k = 1 ∨ k = 2 ∨ k = 3 by omega) with rfl | rfl | rfl | rfl
  · exact ⟨102, false, fun _ => by kernel_rfl, rfl, enters_of Try.func102 (by kernel_rfl) rfl, fun s t W => same_bel (of0_any s t W)⟩
  · exact ⟨103, true, fun _ => by kernel_rfl, rfl, enters_of Try.func103 (by kernel_rfl) rfl, fun s t W => same_bel (of1_any s t W)⟩
  · exact ⟨104, false, fun _ => by kernel_rfl, rfl, enters_of Try.func104 (by kernel_rfl) rfl, fun s t W => same_bel (of2_any s t W)⟩
  · exact ⟨105, false, fun _ => by kernel_rfl, rfl, enters_of Try.func105 (by kernel_rfl) rfl, fun s t W => same_bel (of3_any s t W)⟩
set_option maxHeartbeats 1000000 in
theorem match_any (m : Mat) (v : Value) (xs : List Lab) (w : World) (hk : 0 ≤ m.kind ∧ m.kind ≤ 3) (hS : SlAt w v 2 xs.length (labsC xs)) :
    Calls Try.prog 40 #[matV m, v] w fun e w' => e = .returned (.bool (matchB m xs)) ∧ Below w.heap.size w w' := by
  obtain ⟨a, c, rfl, hnc, hcm⟩ := hS.form
  have hlen := hS.le
  unfold maxLen at hlen
  have HS := Lib.hid hS
  have hen : Enters Try.prog 78 := enters_of Try.func78 (by kernel_rfl) rfl
  have HIX := Lib.hid fun (W : World) (g : Nat) (hb : SlAt W (Value.slice a xs.length c) 2 xs.length (labsC xs)) (hc : W.cell? ⟨g, 1, none⟩ = some (.string m.name)) (hg : g < W.heap.size) =>
    indexFuncL (.slice a xs.length c) xs 78 #[.pointer (some ⟨g, 0, none⟩)] (isOf m) W hb (fun x hx W' hW' => match1_any x g m.name W' ((hW'.cell (p := ⟨g, 1, none⟩) hg).trans hc) (Nat.lt_of_lt_of_le hg hW'.size)) hen
  have HK := Lib.hid kinds_any
  obtain ⟨q, hq⟩ : ∃ q, q = idxOf (isOf m) xs := ⟨_, rfl⟩
  obtain ⟨r, hr⟩ : ∃ r, r = matchB m xs := ⟨_, rfl⟩
  have hcase := idx_find (isOf m) xs
  rw [← hr]
  unfold matchB at hr
  rw [← hq] at HIX hcase
  obtain ⟨k, n, u⟩ := m
  simp only at hk hr HIX hcase
  unfold matV
  have HC := Lib.hid hcase
  have HR := Lib.hid hr
  obtain ⟨F, bb, hidx, hbb, hF, hof⟩ := kind_of k hk
  unfold kindsV at HK hidx
  have HOF := Lib.hid hof
  have HBB := Lib.hid hbb
  have HEN := Lib.hid hF
  clear hS hen hq hr hcase hk hof hbb hF
  go_enter Try.func40, Try.ntmps40
  go_upto_region 1 with fail
  go_cut [5] (fun s5 wx => ∃ g, s5 = .pointer (some ⟨g, 0, none⟩) ∧ wx.cell? ⟨g, 0, none⟩ = some (.func (.func F) #[] #[]) ∧ wx.cell? ⟨g, 1, none⟩ = some (.bool bb) ∧ wx.cell? ⟨w.heap.size, 0, none⟩ = some (.int .i64 k) ∧ wx.cell? ⟨w.heap.size, 1, none⟩ = some (.string n) ∧ wx.cell? ⟨w.heap.size, 2, none⟩ = some (.string u) ∧ w.heap.size < g ∧ g < wx.heap.size ∧ Below w.heap.size w wx)
  case first =>
    go_region_law (go_simp; go_at_call 76; refine (HK.out _).mono ?_; rintro e w1 ⟨rfl, hb1⟩; obtain ⟨x1, rfl⟩ := ext_of hb1; clear hb1)
    all_goals
      go_wp2_with fail
      go_meet
      refine ⟨_, rfl, ?_, ?_, ?_, ?_, ?_, ?_, ?_, (by repeat (first | exact Below.refl _ _ | apply bal | apply bext | apply bdr | apply bdrN | (refine bst ?_ _ (by simp only [ext_size, size_alloc, size_set]; omega))))⟩
      all_goals
        try simp only [ext_cell, alloc_cell, ext_size, size_alloc, drew_cell, drew_size, set_cell, size_set]
        (repeat (first | rw [if_pos (by omega)] | rw [if_neg (by omega)]))
        first | rfl | omega | (simp; done) | trace_state
  case rest =>
  obtain ⟨g, rfl, e0, e1, e2, e3, e4, z1, z2, hb⟩ := hcut
  have HB := Lib.hid hb
  have HS2 := Lib.hid (HS.out.stay hb)
  clear hb hidx
  have z0 : w.heap.size < wc.heap.size := by omega
  go_wp2_with fail
  refine (HIX.out _ _ HS2.out e3 z0).mono ?_
  rintro e w1 ⟨rfl, hb1⟩
  obtain ⟨x1, rfl⟩ := ext_of hb1
  clear hb1
  rcases HC.out with ⟨h1, h2⟩ | ⟨i, hi, h1, h2⟩
  · have h3 := HR.out
    rw [h2] at h3
    have H3 := Lib.hid h3
    subst h1
    clear h2 h3
    go_wp2_with fail
    go_ret
    exact ⟨ret_bool (by rw [H3.out]; exact HBB.out), HB.out.trans (bels (Below.refl _ _) (by omega) (by repeat (first | exact Below.refl _ _ | apply bal | apply bext | apply bdr | apply bdrN | (refine bst ?_ _ (by simp only [ext_size, size_alloc, size_set]; omega)))))⟩
  · have h3 := HR.out
    rw [h2] at h3
    have H3 := Lib.hid h3
    subst h1
    obtain ⟨b, o, rfl, hbl, hcell⟩ := HS2.out.at (by omega)
    have g0 := labs_get xs i hi
    have k1 : wc.cell? ⟨b, o + i * 2 + 1, none⟩ = some (.string xs[i].value) := by rw [Nat.add_assoc]; exact hcell _ _ g0.2
    have he := HEN.out #[.string xs[i].value, .string u]
    have i1 : (i : Int) < (xs.length : Int) := by omega
    clear h2 h3 hcell g0
    go_wp2_with fail
    refine wp_region_ext (by kernel_rfl) (by kernel_rfl) ?_
    repeat (go_big_quiet_step ((first | (exact Calls.grew (HOF.out _ _ _)))))
    refine wpQuiet_nil ?_
    intro _ hw'
    obtain ⟨y1, rfl⟩ := hw'
    go_wp2_with fail
    go_ret
    exact ⟨ret_bool H3.out.symm, HB.out.trans (bels (Below.refl _ _) (by omega) (by repeat (first | exact Below.refl _ _ | apply bal | apply bext | apply bdr | apply bdrN | (refine bst ?_ _ (by simp only [ext_size, size_alloc, size_set]; omega)))))⟩
end Go.Proofs.Ytndgollcganhmaa
/- Contract of label.All. -/
namespace Go.Proofs.Ytndgollcganhmaa
open Go.RowKit
attribute [local go_sem high] ext_size ext_cell ext_frozen alloc_cell alloc_frozen
theorem all1_any (x : Mat) (w : World) (h1 : x.name.size ≤ maxLen) (h2 : x.value.size ≤ maxLen) :
    Calls Try.prog 38 #[matV x] w fun e w' => e = .returned (.bool (!matB x)) ∧ Below w.heap.size w w' := by
  have H := Lib.hid fun W => matcher_any x W h1 h2
  obtain ⟨k, n, v⟩ := x
  obtain ⟨b, hb⟩ : ∃ b, b = matB ⟨k, n, v⟩ := ⟨_, rfl⟩
  rw [← hb] at H ⊢
  unfold matV at *
  clear hb
  go_enter Try.func38, Try.ntmps38
  go_wp2_with fail
  refine (H.out _).mono ?_
  rintro e w' ⟨rfl, hb⟩
  obtain ⟨y1, rfl⟩ := ext_of hb
  clear hb
  go_wp2_with fail
  go_ret
  exact ⟨rfl, (by repeat (first | exact Below.refl _ _ | apply bal | apply bext | apply bdr | apply bdrN | (refine bst ?_ _ (by simp only [ext_size, size_alloc, size_set]; omega))))⟩
theorem all2_any (x : Mat) (g : Nat) (v : Value) (xs : List Lab) (w : World) (hk : 0 ≤ x.kind ∧ x.kind ≤ 3) (hc : w.cell? ⟨g, 0, none⟩ = some v) (hg : g < w.heap.size) (hS : SlAt w v 2 xs.length (labsC xs)) :
    Calls Try.prog 39 #[matV x, .pointer (some ⟨g, 0, none⟩)] w fun e w' => e = .returned (.bool (!matchB x xs)) ∧ Below w.heap.size w w' := by
  obtain ⟨a, c, rfl, hnc, hcm⟩ := hS.form
  have H := Lib.hid fun W (h : SlAt W (Value.slice a xs.length c) 2 xs.length (labsC xs)) => match_any x _ xs W hk h
  have HS := Lib.hid hS
  obtain ⟨k, n, v⟩ := x
  obtain ⟨b, hb⟩ : ∃ b, b = matchB ⟨k, n, v⟩ xs := ⟨_, rfl⟩
  rw [← hb] at H ⊢
  unfold matV at *
  clear hb hS hk
  go_enter Try.func39, Try.ntmps39
  go_wp2_with fail
  refine (H.out _ (HS.out.stay (by repeat (first | exact Below.refl _ _ | apply bal | apply bext | apply bdr | apply bdrN | (refine bst ?_ _ (by simp only [ext_size, size_alloc, size_set]; omega)))))).mono ?_
  rintro e w' ⟨rfl, hb⟩
  obtain ⟨y1, rfl⟩ := ext_of hb
  clear hb
  go_wp2_with fail
  go_ret
  exact ⟨rfl, (by repeat (first | exact Below.refl _ _ | apply bal | apply bext | apply bdr | apply bdrN | (refine bst ?_ _ (by simp only [ext_size, size_alloc, size_set]; omega))))⟩
theorem ret_bi {b b' : Bool} {n n' : Int} (h : b = b') (h2 : n = n') : Ending.returned (.tuple #[.bool b, .int .i64 n]) = .returned (.tuple #[.bool b', .int .i64 n']) := by rw [h, h2]
theorem matB_kind {x : Mat} (h : matB x = true) : 0 ≤ x.kind ∧ x.kind ≤ 3 := by
  unfold matB at h
  simp only [Bool.and_eq_true, decide_eq_true_eq] at h
  exact ⟨h.1.1.1.1, h.1.1.1.2⟩
theorem labAll_any (u v : Value) (ms : List Mat) (xs : List Lab) (w : World) (hM : SlAt w u 3 ms.length (matsC ms)) (hS : SlAt w v 2 xs.length (labsC xs)) (hm : MatsOk ms) (hl : LabsOk xs) :
    Calls Try.prog 13 #[u, v] w fun e w' => e = .returned (.tuple #[.bool (decide (allE ms xs = 0) && allB ms xs), .int .i64 (allE ms xs)]) ∧ Below w.heap.size w w' := by
  obtain ⟨a, c, rfl, hnc, hcm⟩ := hS.form
  obtain ⟨a2, c2, rfl, hnc2, hcm2⟩ := hM.form
  have HS := Lib.hid hS
  have HM := Lib.hid hM
  have HR := Lib.hid fun W (h : SlAt W (Value.slice a xs.length c) 2 xs.length (labsC xs)) => labRight_any _ xs W h hl
  have hen1 : Enters Try.prog 38 := enters_of Try.func38 (by kernel_rfl) rfl
  have hen2 : Enters Try.prog 39 := enters_of Try.func39 (by kernel_rfl) rfl
  have H1 := Lib.hid fun W (h : SlAt W (Value.slice a2 ms.length c2) 3 ms.length (matsC ms)) => containsFuncM _ ms 38 #[] (fun m => !matB m) W h (fun x hx W' _ => all1_any x W' (hm x hx).1 (hm x hx).2) hen1
  have H2 := Lib.hid fun (hmb : ∀ x ∈ ms, matB x = true) (g : Nat) W (h : SlAt W (Value.slice a2 ms.length c2) 3 ms.length (matsC ms)) (h3 : SlAt W (Value.slice a xs.length c) 2 xs.length (labsC xs)) (hc : W.cell? ⟨g, 0, none⟩ = some (.slice a xs.length c)) (hg : g < W.heap.size) =>
    containsFuncM (.slice a2 ms.length c2) ms 39 #[.pointer (some ⟨g, 0, none⟩)] (fun m => !matchB m xs) W h (fun x hx W' hW' => all2_any x g _ xs W' (matB_kind (hmb x hx)) ((hW'.cell (p := ⟨g, 0, none⟩) hg).trans hc) (Nat.lt_of_lt_of_le hg hW'.size) (h3.stay hW')) hen2
  unfold allE allB
  obtain ⟨r, hr⟩ : ∃ r, r = labsB xs := ⟨_, rfl⟩
  obtain ⟨q, hq⟩ : ∃ q, q = ms.any (fun m => !matB m) := ⟨_, rfl⟩
  obtain ⟨t, ht⟩ : ∃ t, t = ms.any (fun m => !matchB m xs) := ⟨_, rfl⟩
  have hall : q = false → ∀ x ∈ ms, matB x = true := by
    intro h x hx
    rw [hq, List.any_eq_false] at h
    simpa using h x hx
  rw [← hr] at HR ⊢
  rw [← hq] at H1 ⊢
  rw [← ht] at H2 ⊢
  have HALL := Lib.hid hall
  obtain ⟨E, hE⟩ : ∃ E : Int, E = if r = true ∧ ms.length ≤ 4 ∧ q = false then 0 else 1 := ⟨_, rfl⟩
  obtain ⟨B, hB⟩ : ∃ B : Bool, B = (decide (E = 0) && !t) := ⟨_, rfl⟩
  rw [← hE, ← hB]
  clear hr hq ht hall hS hM hen1 hen2
  cases r
  case false =>
    rw [if_neg (by simp)] at hE
    subst hE
    subst hB
    go_enter Try.func13, Try.ntmps13
    go_wp2_with fail
    refine (HR.out _ (HS.out.stay (by repeat (first | exact Below.refl _ _ | apply bal | apply bext | apply bdr | apply bdrN | (refine bst ?_ _ (by simp only [ext_size, size_alloc, size_set]; omega)))))).mono ?_
    rintro e w' ⟨rfl, hb⟩
    obtain ⟨y1, rfl⟩ := ext_of hb
    clear hb
    go_wp2_with fail
    all_goals
      go_ret2
      exact ⟨rfl, (by repeat (first | exact Below.refl _ _ | apply bal | apply bext | apply bdr | apply bdrN | (refine bst ?_ _ (by simp only [ext_size, size_alloc, size_set]; omega))))⟩
  case true =>
    by_cases c4 : 4 < ms.length
    · rw [if_neg (by omega)] at hE
      subst hE
      subst hB
      go_enter Try.func13, Try.ntmps13
      go_wp2_with fail
      refine (HR.out _ (HS.out.stay (by repeat (first | exact Below.refl _ _ | apply bal | apply bext | apply bdr | apply bdrN | (refine bst ?_ _ (by simp only [ext_size, size_alloc, size_set]; omega)))))).mono ?_
      rintro e w' ⟨rfl, hb⟩
      obtain ⟨y1, rfl⟩ := ext_of hb
      clear hb
      go_wp2_with fail
      go_ret2
      exact ⟨rfl, (by repeat (first | exact Below.refl _ _ | apply bal | apply bext | apply bdr | apply bdrN | (refine bst ?_ _ (by simp only [ext_size, size_alloc, size_set]; omega))))⟩
    · cases q
      case true =>
        rw [if_neg (by simp)] at hE
        subst hE
        subst hB
        go_enter Try.func13, Try.ntmps13
        go_wp2_with fail
        refine (HR.out _ (HS.out.stay (by repeat (first | exact Below.refl _ _ | apply bal | apply bext | apply bdr | apply bdrN | (refine bst ?_ _ (by simp only [ext_size, size_alloc, size_set]; omega)))))).mono ?_
        rintro e w' ⟨rfl, hb⟩
        obtain ⟨y1, rfl⟩ := ext_of hb
        clear hb
        go_wp2_with fail
        refine (H1.out _ (HM.out.stay (by repeat (first | exact Below.refl _ _ | apply bal | apply bext | apply bdr | apply bdrN | (refine bst ?_ _ (by simp only [ext_size, size_alloc, size_set]; omega)))))).mono ?_
        rintro e w' ⟨rfl, hb⟩
        obtain ⟨y2, rfl⟩ := ext_of hb
        clear hb
        go_wp2_with fail
        all_goals
          go_ret2
          exact ⟨rfl, (by repeat (first | exact Below.refl _ _ | apply bal | apply bext | apply bdr | apply bdrN | (refine bst ?_ _ (by simp only [ext_size, size_alloc, size_set]; omega))))⟩
      case false =>
        rw [if_pos ⟨rfl, by omega, rfl⟩] at hE
        subst hE
        have hB' : B = !t := by rw [hB]; rfl
        subst hB'
        have H3 := Lib.hid (H2.out (HALL.out rfl))
        clear hB
        go_enter Try.func13, Try.ntmps13
        go_wp2_with fail
        refine (HR.out _ (HS.out.stay (by repeat (first | exact Below.refl _ _ | apply bal | apply bext | apply bdr | apply bdrN | (refine bst ?_ _ (by simp only [ext_size, size_alloc, size_set]; omega)))))).mono ?_
        rintro e w' ⟨rfl, hb⟩
        obtain ⟨y1, rfl⟩ := ext_of hb
        clear hb
        go_wp2_with fail
        refine (H1.out _ (HM.out.stay (by repeat (first | exact Below.refl _ _ | apply bal | apply bext | apply bdr | apply bdrN | (refine bst ?_ _ (by simp only [ext_size, size_alloc, size_set]; omega)))))).mono ?_
        rintro e w' ⟨rfl, hb⟩
        obtain ⟨y2, rfl⟩ := ext_of hb
        clear hb
        go_wp2_with fail
        refine (H3.out _ _ (HM.out.stay (by repeat (first | exact Below.refl _ _ | apply bal | apply bext | apply bdr | apply bdrN | (refine bst ?_ _ (by simp only [ext_size, size_alloc, size_set]; omega))))) (HS.out.stay (by repeat (first | exact Below.refl _ _ | apply bal | apply bext | apply bdr | apply bdrN | (refine bst ?_ _ (by simp only [ext_size, size_alloc, size_set]; omega))))) ?_ ?_).mono ?_
        · simp only [ext_cell, alloc_cell, ext_size, size_alloc]
          (repeat (first | rw [if_pos (by omega)] | rw [if_neg (by omega)]))
          rfl
        · simp only [ext_size, size_alloc]
          omega
        rintro e w1 ⟨rfl, hb1⟩
        obtain ⟨x1, rfl⟩ := ext_of hb1
        clear hb1
        go_wp2_with fail
        go_ret2
        exact ⟨rfl, (by repeat (first | exact Below.refl _ _ | apply bal | apply bext | apply bdr | apply bdrN | (refine bst ?_ _ (by simp only [ext_size, size_alloc, size_set]; omega))))⟩
end Go.Proofs.Ytndgollcganhmaa
/- Contracts of foghornref10: Name, Value, each, Right, Matcher, Matchers. -/
namespace Go.Proofs.Ytndgollcganhmaa
open Go.RowKit
attribute [local go_sem high] ext_size ext_cell ext_frozen alloc_cell alloc_frozen
theorem name_len {s : ByteArray} (h : ∀ k (hk : k < s.size), azB (s[k]'hk) = true) : nameB s = (decide (1 ≤ s.size) && decide (s.size ≤ 8)) := by
  unfold nameB
  rw [all_good h, Bool.true_and]
theorem refName_any (s : ByteArray) (w : World) (hs : s.size ≤ maxLen) :
    Calls Try.prog 44 #[.string s] w fun e w' => e = .returned (.bool (nameB s)) ∧ Below w.heap.size w w' := by
  unfold maxLen at hs
  go_enter Try.func44, Try.ntmps44
  go_wp2
  go_loopw [3] (fun i wr => ∃ k : Nat, k ≤ s.size ∧ i = .int .i64 k ∧ (∀ j (hj : j < s.size), j < k → azB (s[j]'hj) = true) ∧ Below w.heap.size w wr) (fun i _ => s.size - (intOf i).toNat)
  case atStart => exact ⟨0, Nat.zero_le _, rfl, fun j _ hj => absurd hj (by omega), Below.refl _ _⟩
  case round =>
    obtain ⟨k, hk, rfl, hall, hbel⟩ := hrel
    have HA := Lib.hid hall
    clear hall
    obtain ⟨xr, rfl⟩ := ext_of hbel
    clear hbel
    by_cases hlt : k < s.size
    · go_wp2
      all_goals (try go_quiet (fail)); (try go_wp2)
      all_goals first
        | (go_ret; exact ⟨ret_bool (name_no hlt (az_no (by omega))), (by repeat (first | exact Below.refl _ _ | apply bal | apply bext | apply bdr | apply bdrN | (refine bst ?_ _ (by simp only [ext_size, size_alloc, size_set]; omega))))⟩)
        | (refine ⟨⟨k + 1, by omega, by go_num, fun j hj hjk => ?_, (by repeat (first | exact Below.refl _ _ | apply bal | apply bext | apply bdr | apply bdrN | (refine bst ?_ _ (by simp only [ext_size, size_alloc, size_set]; omega))))⟩, by simp [intOf]; omega⟩
           rcases Nat.lt_succ_iff_lt_or_eq.1 hjk with h | rfl
           · exact HA.out j hj h
           · exact az_yes (by omega))
    · have hr := name_len (fun j hj => HA.out j hj (by omega))
      have HR := Lib.hid hr
      clear hr
      go_wp2
      all_goals
        go_ret
        refine ⟨ret_bool ?_, (by repeat (first | exact Below.refl _ _ | apply bal | apply bext | apply bdr | apply bdrN | (refine bst ?_ _ (by simp only [ext_size, size_alloc, size_set]; omega))))⟩
        rw [HR.out]
        first | (rw [Bool.eq_iff_iff]; simp; omega) | (simp [*]; done) | (simp; omega)
theorem val_len {s : ByteArray} (h : ∀ k (hk : k < s.size), avB (s[k]'hk) = true) : valB s = decide (s.size ≤ 8) := by
  unfold valB
  rw [all_good h, Bool.true_and]
set_option maxHeartbeats 1000000 in
theorem refValue_any (s : ByteArray) (w : World) (hs : s.size ≤ maxLen) :
    Calls Try.prog 45 #[.string s] w fun e w' => e = .returned (.bool (valB s)) ∧ Below w.heap.size w w' := by
  unfold maxLen at hs
  go_enter Try.func45, Try.ntmps45
  go_wp2
  go_loopw [3] (fun i wr => ∃ k : Nat, k ≤ s.size ∧ i = .int .i64 k ∧ (∀ j (hj : j < s.size), j < k → avB (s[j]'hj) = true) ∧ Below w.heap.size w wr) (fun i _ => s.size - (intOf i).toNat)
  case atStart => exact ⟨0, Nat.zero_le _, rfl, fun j _ hj => absurd hj (by omega), Below.refl _ _⟩
  case round =>
    obtain ⟨k, hk, rfl, hall, hbel⟩ := hrel
    have HA := Lib.hid hall
    clear hall
    obtain ⟨xr, rfl⟩ := ext_of hbel
    clear hbel
    by_cases hlt : k < s.size
    · go_wp2
      all_goals first
        | (go_ret; exact ⟨ret_bool (val_no hlt (av_no (by first | omega | (rename_i h; simp at h; omega) | (simp_all; omega)))), (by repeat (first | exact Below.refl _ _ | apply bal | apply bext | apply bdr | apply bdrN | (refine bst ?_ _ (by simp only [ext_size, size_alloc, size_set]; omega))))⟩)
        | (refine ⟨⟨k + 1, by omega, by go_num, fun j hj hjk => ?_, (by repeat (first | exact Below.refl _ _ | apply bal | apply bext | apply bdr | apply bdrN | (refine bst ?_ _ (by simp only [ext_size, size_alloc, size_set]; omega))))⟩, by simp [intOf]; omega⟩
           rcases Nat.lt_succ_iff_lt_or_eq.1 hjk with h | rfl
           · exact HA.out j hj h
           · exact av_yes (by first | omega | (rename_i h _; simp at h; omega) | (rename_i h; simp at h; omega)))
    · have hr := val_len (fun j hj => HA.out j hj (by omega))
      have HR := Lib.hid hr
      clear hr
      go_wp2
      all_goals
        go_ret
        refine ⟨ret_bool ?_, (by repeat (first | exact Below.refl _ _ | apply bal | apply bext | apply bdr | apply bdrN | (refine bst ?_ _ (by simp only [ext_size, size_alloc, size_set]; omega))))⟩
        rw [HR.out]
        first | (rw [Bool.eq_iff_iff]; simp; omega) | (simp [*]; done) | (simp; omega)
theorem each_no {xs : List Lab} {k : Nat} (h : k < xs.length) (hp : labB xs[k] = false) : false = eachB xs := by
  unfold eachB
  have : xs.any (fun x => !labB x) = true := List.any_eq_true.2 ⟨xs[k], List.getElem_mem h, by rw [hp]; rfl⟩
  rw [this]
  simp
theorem each_all {xs : List Lab} (h : ∀ k (hk : k < xs.length), labB xs[k] = true) : eachB xs = (decide (1 ≤ xs.length) && decide (xs.length ≤ 3)) := by
  unfold eachB
  have : xs.any (fun x => !labB x) = false := by
    rw [List.any_eq_false]
    intro x hx
    obtain ⟨k, hk, rfl⟩ := List.mem_iff_getElem.1 hx
    simp [h k hk]
  rw [this]
  simp
theorem refEach_any (v : Value) (xs : List Lab) (w : World) (hS : SlAt w v 2 xs.length (labsC xs)) (hL : LabsOk xs) :
    Calls Try.prog 41 #[v] w fun e w' => e = .returned (.bool (eachB xs)) ∧ Below w.heap.size w w' := by
  obtain ⟨a, c, rfl, hnc, hcm⟩ := hS.form
  have hm := hS.le
  have HS := Lib.hid hS
  have HL := Lib.hid hL
  unfold maxLen at hm
  clear hS hL
  go_enter Try.func41, Try.ntmps41
  go_wp2
  go_loopw [7] (fun i wr => ∃ k : Nat, k ≤ xs.length ∧ i = .int .i64 k ∧ (∀ j (hj : j < xs.length), j < k → labB xs[j] = true) ∧ Below w.heap.size w wr) (fun i _ => xs.length - (intOf i).toNat)
  case atStart => exact ⟨0, Nat.zero_le _, rfl, fun j _ hj => absurd hj (by omega), Below.refl _ _⟩
  case round =>
    obtain ⟨k, hk, rfl, hall, hbel⟩ := hrel
    have HA := Lib.hid hall
    clear hall
    obtain ⟨xr, rfl⟩ := ext_of hbel
    clear hbel
    by_cases hlt : k < xs.length
    · obtain ⟨b, o, rfl, hbl, hcell⟩ := HS.out.at (by omega)
      have g0 := labs_get xs k hlt
      have k0 : w.cell? ⟨b, o + k * 2, none⟩ = some (.string xs[k].name) := hcell _ _ g0.1
      have k1 : w.cell? ⟨b, o + k * 2 + 1, none⟩ = some (.string xs[k].value) := by rw [Nat.add_assoc]; exact hcell _ _ g0.2
      have hok := HL.out xs[k] (List.getElem_mem hlt)
      obtain ⟨x, hx⟩ : ∃ x, x = xs[k] := ⟨_, rfl⟩
      rw [← hx] at k0 k1 hok
      have HX := Lib.hid hx
      have HN := Lib.hid fun W => refName_any x.name W hok.1
      have HV := Lib.hid fun W => refValue_any x.value W hok.2
      clear hcell g0 hx hok
      cases hn : nameB x.name
      · rw [hn] at HN
        have HB := Lib.hid (show labB x = false by unfold labB; rw [hn]; rfl)
        clear hn
        go_wp2_with fail
        refine (HN.out _).mono ?_
        rintro e w' ⟨rfl, hb⟩
        obtain ⟨y1, rfl⟩ := ext_of hb
        clear hb
        go_wp2_with fail
        go_ret
        exact ⟨ret_bool (each_no hlt (by rw [← HX.out]; exact HB.out)), (by repeat (first | exact Below.refl _ _ | apply bal | apply bext | apply bdr | apply bdrN | (refine bst ?_ _ (by simp only [ext_size, size_alloc, size_set]; omega))))⟩
      · rw [hn] at HN
        cases hv : valB x.value
        · rw [hv] at HV
          have HB := Lib.hid (show labB x = false by unfold labB; rw [hn, hv]; rfl)
          clear hn hv
          go_wp2_with fail
          refine (HN.out _).mono ?_
          rintro e w' ⟨rfl, hb⟩
          obtain ⟨y1, rfl⟩ := ext_of hb
          clear hb
          go_wp2_with fail
          refine (HV.out _).mono ?_
          rintro e w' ⟨rfl, hb⟩
          obtain ⟨y2, rfl⟩ := ext_of hb
          clear hb
          go_wp2_with fail
          go_ret
          exact ⟨ret_bool (each_no hlt (by rw [← HX.out]; exact HB.out)), (by repeat (first | exact Below.refl _ _ | apply bal | apply bext | apply bdr | apply bdrN | (refine bst ?_ _ (by simp only [ext_size, size_alloc, size_set]; omega))))⟩
        · rw [hv] at HV
          have HB := Lib.hid (show labB x = true by unfold labB; rw [hn, hv]; rfl)
          clear hn hv
          go_wp2_with fail
          refine (HN.out _).mono ?_
          rintro e w' ⟨rfl, hb⟩
          obtain ⟨y1, rfl⟩ := ext_of hb
          clear hb
          go_wp2_with fail
          refine (HV.out _).mono ?_
          rintro e w' ⟨rfl, hb⟩
          obtain ⟨y2, rfl⟩ := ext_of hb
          clear hb
          go_wp2_with fail
          refine ⟨⟨k + 1, by omega, by go_num, fun j hj hjk => ?_, (by repeat (first | exact Below.refl _ _ | apply bal | apply bext | apply bdr | apply bdrN | (refine bst ?_ _ (by simp only [ext_size, size_alloc, size_set]; omega))))⟩, by simp [intOf]; omega⟩
          rcases Nat.lt_succ_iff_lt_or_eq.1 hjk with h | rfl
          · exact HA.out j hj h
          · rw [← HX.out]; exact HB.out
    · have hr := each_all (fun j hj => HA.out j hj (by omega))
      have HR := Lib.hid hr
      clear hr
      go_wp2
      all_goals
        go_ret
        refine ⟨ret_bool ?_, (by repeat (first | exact Below.refl _ _ | apply bal | apply bext | apply bdr | apply bdrN | (refine bst ?_ _ (by simp only [ext_size, size_alloc, size_set]; omega))))⟩
        rw [HR.out]
        first | (rw [Bool.eq_iff_iff]; simp; omega) | (simp [*]; done) | (simp; omega)
theorem refRight10_any (v : Value) (xs : List Lab) (w : World) (hS : SlAt w v 2 xs.length (labsC xs)) (hL : LabsOk xs) :
    Calls Try.prog 16 #[v] w fun e w' => e = .returned (.bool (labsB xs)) ∧ Below w.heap.size w w' := by
  obtain ⟨a, c, rfl, hnc, hcm⟩ := hS.form
  have hm := hS.le
  have HS := Lib.hid hS
  have HE := Lib.hid fun W (h : SlAt W (Value.slice a xs.length c) 2 xs.length (labsC xs)) => refEach_any _ xs W h hL
  unfold maxLen at hm
  clear hS hL
  go_enter Try.func16, Try.ntmps16
  go_wp2
  go_loopw [7] (fun i wr => ∃ k : Nat, k ≤ xs.length ∧ i = .int .i64 k ∧ (∀ q (h : q + 1 < xs.length), q + 1 < k → ltS xs[q].name xs[q + 1].name = true) ∧ Below w.heap.size w wr) (fun i _ => xs.length - (intOf i).toNat)
  case atStart => exact ⟨0, Nat.zero_le _, rfl, fun j _ hj => absurd hj (by omega), Below.refl _ _⟩
  case round =>
    obtain ⟨k, hk, rfl, hall, hbel⟩ := hrel
    have HA := Lib.hid hall
    clear hall
    obtain ⟨xr, rfl⟩ := ext_of hbel
    clear hbel
    by_cases hlt : k < xs.length
    · obtain ⟨b, o, rfl, hbl, hcell⟩ := HS.out.at (by omega)
      have g0 := labs_get xs k hlt
      have k0 : w.cell? ⟨b, o + k * 2, none⟩ = some (.string xs[k].name) := hcell _ _ g0.1
      have k1 : w.cell? ⟨b, o + k * 2 + 1, none⟩ = some (.string xs[k].value) := by rw [Nat.add_assoc]; exact hcell _ _ g0.2
      obtain ⟨x, hx⟩ : ∃ x, x = xs[k] := ⟨_, rfl⟩
      rw [← hx] at k0 k1
      have HX := Lib.hid hx
      clear g0 hx
      by_cases hz : k = 0
      · subst hz
        clear hcell
        have k0' : w.cell? ⟨b, o, none⟩ = some (.string x.name) := by simpa using k0
        have k1' : w.cell? ⟨b, o + 1, none⟩ = some (.string x.value) := by simpa using k1
        clear k0 k1
        go_wp2
        refine wp_region_ext (by kernel_rfl) (by kernel_rfl) ?_
        repeat (go_big_quiet_step ((fail)))
        refine wpQuiet_nil ?_
        intro _ hw'
        obtain ⟨y1, rfl⟩ := hw'
        go_wp2
        refine ⟨⟨1, by omega, by go_num, fun q hq hqk => absurd hqk (by omega), (by repeat (first | exact Below.refl _ _ | apply bal | apply bext | apply bdr | apply bdrN | (refine bst ?_ _ (by simp only [ext_size, size_alloc, size_set]; omega))))⟩, by simp [intOf]; omega⟩
      · obtain ⟨j, rfl⟩ : ∃ j, k = j + 1 := ⟨k - 1, by omega⟩
        have g1 := labs_get xs j (by omega)
        have k2 : w.cell? ⟨b, o + j * 2, none⟩ = some (.string xs[j].name) := hcell _ _ g1.1
        obtain ⟨y, hy⟩ : ∃ y, y = xs[j] := ⟨_, rfl⟩
        rw [← hy] at k2
        have HY := Lib.hid hy
        have i0 : (0 : Int) < (j : Int) + 1 := by omega
        clear hcell g1 hy
        have hb : Op.bytesLess y.name.toList x.name.toList = ltS y.name x.name := rfl
        cases hl : ltS y.name x.name
        all_goals
          rw [hl] at hb
          have HL := Lib.hid hl
          clear hl
          go_wp2
          refine wp_region_ext (by kernel_rfl) (by kernel_rfl) ?_
          repeat (go_big_quiet_step ((fail)))
          refine wpQuiet_nil ?_
          intro _ hw'
          obtain ⟨y1, rfl⟩ := hw'
          go_wp2
        · go_ret
          refine ⟨ret_bool ?_, (by repeat (first | exact Below.refl _ _ | apply bal | apply bext | apply bdr | apply bdrN | (refine bst ?_ _ (by simp only [ext_size, size_alloc, size_set]; omega))))⟩
          unfold labsB
          rw [rises_bad hlt (by rw [← HX.out, ← HY.out]; exact HL.out)]
          rfl
        · refine ⟨⟨j + 1 + 1, by omega, by go_num, fun q hq hqk => ?_, (by repeat (first | exact Below.refl _ _ | apply bal | apply bext | apply bdr | apply bdrN | (refine bst ?_ _ (by simp only [ext_size, size_alloc, size_set]; omega))))⟩, by simp [intOf]; omega⟩
          rcases Nat.lt_succ_iff_lt_or_eq.1 hqk with h | h
          · exact HA.out q hq h
          · obtain rfl : q = j := by omega
            rw [← HX.out, ← HY.out]
            exact HL.out
    · have hr : risesB xs = true := rises_all fun q hq => HA.out q hq (by omega)
      have HR := Lib.hid hr
      clear hr
      go_wp2_with fail
      refine (HE.out _ (HS.out.stay (by repeat (first | exact Below.refl _ _ | apply bal | apply bext | apply bdr | apply bdrN | (refine bst ?_ _ (by simp only [ext_size, size_alloc, size_set]; omega)))))).mono ?_
      rintro e w' ⟨rfl, hb⟩
      obtain ⟨y1, rfl⟩ := ext_of hb
      clear hb
      go_wp2
      go_ret
      refine ⟨ret_bool ?_, (by repeat (first | exact Below.refl _ _ | apply bal | apply bext | apply bdr | apply bdrN | (refine bst ?_ _ (by simp only [ext_size, size_alloc, size_set]; omega))))⟩
      unfold labsB
      rw [HR.out]
      rfl
end Go.Proofs.Ytndgollcganhmaa
/- Contracts of foghornref10: Matcher, Matchers, match, All, Same. -/
namespace Go.Proofs.Ytndgollcganhmaa
open Go.RowKit
attribute [local go_sem high] ext_size ext_cell ext_frozen alloc_cell alloc_frozen
theorem refMatcher_any (x : Mat) (w : World) (h1 : x.name.size ≤ maxLen) (h2 : x.value.size ≤ maxLen) :
    Calls Try.prog 20 #[matV x] w fun e w' => e = .returned (.bool (matB x)) ∧ Below w.heap.size w w' := by
  obtain ⟨k, n, v⟩ := x
  have HN := Lib.hid fun W => refName_any n W h1
  have HV := Lib.hid fun W => refValue_any v W h2
  unfold matV matB
  simp only at h1 h2 ⊢
  obtain ⟨b1, hb1⟩ : ∃ b, b = nameB n := ⟨_, rfl⟩
  obtain ⟨b2, hb2⟩ : ∃ b, b = valB v := ⟨_, rfl⟩
  rw [← hb1] at HN ⊢
  rw [← hb2] at HV ⊢
  clear hb1 hb2
  have he := empty_dec v
  by_cases c1 : 0 ≤ k ∧ k ≤ 3
  · obtain ⟨c1, c2⟩ := c1
    cases b1
    case false =>
      go_enter Try.func20, Try.ntmps20
      go_wp2_with fail
      refine (HN.out _).mono ?_
      rintro e w' ⟨rfl, hb⟩
      obtain ⟨y1, rfl⟩ := ext_of hb
      clear hb
      go_wp2_with fail
      go_ret
      exact ⟨ret_bool (by simp [c1, c2]), (by repeat (first | exact Below.refl _ _ | apply bal | apply bext | apply bdr | apply bdrN | (refine bst ?_ _ (by simp only [ext_size, size_alloc, size_set]; omega))))⟩
    case true =>
      cases b2
      case false =>
        go_enter Try.func20, Try.ntmps20
        go_wp2_with fail
        refine (HN.out _).mono ?_
        rintro e w' ⟨rfl, hb⟩
        obtain ⟨y1, rfl⟩ := ext_of hb
        clear hb
        go_wp2_with fail
        refine (HV.out _).mono ?_
        rintro e w' ⟨rfl, hb⟩
        obtain ⟨y2, rfl⟩ := ext_of hb
        clear hb
        go_wp2_with fail
        go_ret
        exact ⟨ret_bool (by simp [c1, c2]), (by repeat (first | exact Below.refl _ _ | apply bal | apply bext | apply bdr | apply bdrN | (refine bst ?_ _ (by simp only [ext_size, size_alloc, size_set]; omega))))⟩
      case true =>
        by_cases c3 : k = 3
        · subst c3
          have HE := Lib.hid he
          clear he
          go_enter Try.func20, Try.ntmps20
          go_wp2_with fail
          refine (HN.out _).mono ?_
          rintro e w' ⟨rfl, hb⟩
          obtain ⟨y1, rfl⟩ := ext_of hb
          clear hb
          go_wp2_with fail
          refine (HV.out _).mono ?_
          rintro e w' ⟨rfl, hb⟩
          obtain ⟨y2, rfl⟩ := ext_of hb
          clear hb
          go_wp2_with fail
          all_goals
            go_ret
            refine ⟨ret_bool ?_, (by repeat (first | exact Below.refl _ _ | apply bal | apply bext | apply bdr | apply bdrN | (refine bst ?_ _ (by simp only [ext_size, size_alloc, size_set]; omega))))⟩
            have := HE.out
            simp_all
        · have c4 : (k != 3) = true := by simpa using c3
          clear he
          go_enter Try.func20, Try.ntmps20
          go_wp2_with fail
          refine (HN.out _).mono ?_
          rintro e w' ⟨rfl, hb⟩
          obtain ⟨y1, rfl⟩ := ext_of hb
          clear hb
          go_wp2_with fail
          refine (HV.out _).mono ?_
          rintro e w' ⟨rfl, hb⟩
          obtain ⟨y2, rfl⟩ := ext_of hb
          clear hb
          go_wp2_with fail
          go_ret
          exact ⟨ret_bool (by simp [c1, c2, c3]), (by repeat (first | exact Below.refl _ _ | apply bal | apply bext | apply bdr | apply bdrN | (refine bst ?_ _ (by simp only [ext_size, size_alloc, size_set]; omega))))⟩
  · clear he
    rcases (show k < 0 ∨ 3 < k by omega) with c2 | c2
    all_goals
      go_enter Try.func20, Try.ntmps20
      go_wp2_with fail
      all_goals
        go_ret
        refine ⟨ret_bool ?_, (by repeat (first | exact Below.refl _ _ | apply bal | apply bext | apply bdr | apply bdrN | (refine bst ?_ _ (by simp only [ext_size, size_alloc, size_set]; omega))))⟩
        first
          | (rw [decide_eq_false (p := 0 ≤ k) (by omega)]; rfl)
          | (rw [decide_eq_false (p := k ≤ 3) (by omega)]; simp)
def matsB (ms : List Mat) : Bool := decide (ms.length ≤ 4) && !ms.any (fun m => !matB m)
theorem mats_no {xs : List Mat} {k : Nat} (h : k < xs.length) (hp : matB xs[k] = false) : false = matsB xs := by
  unfold matsB
  have : xs.any (fun x => !matB x) = true := List.any_eq_true.2 ⟨xs[k], List.getElem_mem h, by rw [hp]; rfl⟩
  rw [this]
  simp
theorem mats_all {xs : List Mat} (h : ∀ k (hk : k < xs.length), matB xs[k] = true) : matsB xs = decide (xs.length ≤ 4) := by
  unfold matsB
  have : xs.any (fun x => !matB x) = false := by
    rw [List.any_eq_false]
    intro x hx
    obtain ⟨k, hk, rfl⟩ := List.mem_iff_getElem.1 hx
    simp [h k hk]
  rw [this]
  simp
theorem refMatchers_any (v : Value) (xs : List Mat) (w : World) (hS : SlAt w v 3 xs.length (matsC xs)) (hM : MatsOk xs) :
    Calls Try.prog 21 #[v] w fun e w' => e = .returned (.bool (matsB xs)) ∧ Below w.heap.size w w' := by
  obtain ⟨a, c, rfl, hnc, hcm⟩ := hS.form
  have hm := hS.le
  have HS := Lib.hid hS
  have HM := Lib.hid hM
  unfold maxLen at hm
  clear hS hM
  go_enter Try.func21, Try.ntmps21
  go_wp2
  go_loopw [7] (fun i wr => ∃ k : Nat, k ≤ xs.length ∧ i = .int .i64 k ∧ (∀ j (hj : j < xs.length), j < k → matB xs[j] = true) ∧ Below w.heap.size w wr) (fun i _ => xs.length - (intOf i).toNat)
  case atStart => exact ⟨0, Nat.zero_le _, rfl, fun j _ hj => absurd hj (by omega), Below.refl _ _⟩
  case round =>
    obtain ⟨k, hk, rfl, hall, hbel⟩ := hrel
    have HA := Lib.hid hall
    clear hall
    obtain ⟨xr, rfl⟩ := ext_of hbel
    clear hbel
    by_cases hlt : k < xs.length
    · obtain ⟨b, o, rfl, hbl, hcell⟩ := HS.out.at (by omega)
      have g0 := mats_get xs k hlt
      have k0 : w.cell? ⟨b, o + k * 3, none⟩ = some (.int .i64 xs[k].kind) := hcell _ _ g0.1
      have k1 : w.cell? ⟨b, o + k * 3 + 1, none⟩ = some (.string xs[k].name) := by rw [Nat.add_assoc]; exact hcell _ _ g0.2.1
      have k2 : w.cell? ⟨b, o + k * 3 + 2, none⟩ = some (.string xs[k].value) := by rw [Nat.add_assoc]; exact hcell _ _ g0.2.2
      have hok := HM.out xs[k] (List.getElem_mem hlt)
      have hmm := fun W => refMatcher_any xs[k] W hok.1 hok.2
      unfold matV at hmm
      have HMM := Lib.hid hmm
      clear hmm hcell g0 hok
      cases hb : matB xs[k]
      all_goals
        rw [hb] at HMM
        have HB := Lib.hid hb
        clear hb
        go_wp2_with fail
        refine (HMM.out _).mono ?_
        rintro e w' ⟨rfl, hb⟩
        obtain ⟨y1, rfl⟩ := ext_of hb
        clear hb
        go_wp2_with fail
      · go_ret
        exact ⟨ret_bool (mats_no hlt HB.out), (by repeat (first | exact Below.refl _ _ | apply bal | apply bext | apply bdr | apply bdrN | (refine bst ?_ _ (by simp only [ext_size, size_alloc, size_set]; omega))))⟩
      · refine ⟨⟨k + 1, by omega, by go_num, fun j hj hjk => ?_, (by repeat (first | exact Below.refl _ _ | apply bal | apply bext | apply bdr | apply bdrN | (refine bst ?_ _ (by simp only [ext_size, size_alloc, size_set]; omega))))⟩, by simp [intOf]; omega⟩
        rcases Nat.lt_succ_iff_lt_or_eq.1 hjk with h | rfl
        · exact HA.out j hj h
        · exact HB.out
    · have hr := mats_all (fun j hj => HA.out j hj (by omega))
      have HR := Lib.hid hr
      clear hr
      go_wp2
      all_goals
        go_ret
        refine ⟨ret_bool ?_, (by repeat (first | exact Below.refl _ _ | apply bal | apply bext | apply bdr | apply bdrN | (refine bst ?_ _ (by simp only [ext_size, size_alloc, size_set]; omega))))⟩
        rw [HR.out]
        first | (rw [Bool.eq_iff_iff]; simp; omega) | (simp [*]; done) | (simp; omega)
theorem find_here {α : Type} {p : α → Bool} : ∀ {xs : List α} {k : Nat} (h : k < xs.length), p xs[k] = true → (∀ j (hj : j < xs.length), j < k → p xs[j] = false) → xs.find? p = some xs[k]
  | x :: xs, 0, h, hp, _ => by simp [show p x = true from hp]
  | x :: xs, k + 1, h, hp, hn => by
    have h0 : p x = false := hn 0 (by simp) (by omega)
    rw [List.find?_cons, h0]
    exact find_here (by simpa using h) hp fun j hj hjk => hn (j + 1) (by simpa using hj) (by omega)
theorem find_not {α : Type} {p : α → Bool} {xs : List α} (hn : ∀ j (hj : j < xs.length), p xs[j] = false) : xs.find? p = none := by
  rw [List.find?_eq_none]
  intro x hx
  obtain ⟨j, hj, rfl⟩ := List.mem_iff_getElem.1 hx
  simp [hn j hj]
theorem pre_yes {v a : ByteArray} (h : a.size ≤ v.size) : ((v.extract 0 a.size).toList == a.toList) = Lib.hasPrefix v.data.toList a.data.toList := by
  have e1 : (v.extract 0 a.size).toList = v.data.toList.take a.data.toList.length := by
    rw [ByteArray.toList_eq, ByteArray.data_extract, Array.toList_extract, List.extract_eq_take_drop, len_data]
    simp
  rw [e1, ByteArray.toList_eq]
  unfold Lib.hasPrefix
  rw [Bool.eq_iff_iff, beq_iff_eq, List.isPrefixOf_iff_prefix, List.prefix_iff_eq_take]
  exact ⟨fun h => h.symm, fun h => h.symm⟩
theorem pre_no {v a : ByteArray} (h : v.size < a.size) : Lib.hasPrefix v.data.toList a.data.toList = false := by
  unfold Lib.hasPrefix
  cases e : a.data.toList.isPrefixOf v.data.toList
  · rfl
  · have := (List.isPrefixOf_iff_prefix.1 e).length_le
    rw [len_data, len_data] at this
    omega
set_option maxHeartbeats 2000000 in
theorem refMatch_any (m : Mat) (v : Value) (xs : List Lab) (w : World) (hk : 0 ≤ m.kind ∧ m.kind ≤ 3) (hS : SlAt w v 2 xs.length (labsC xs)) (hL : LabsOk xs) (hmv : m.value.size ≤ maxLen) :
    Calls Try.prog 46 #[matV m, v] w fun e w' => e = .returned (.bool (matchB m xs)) ∧ Below w.heap.size w w' := by
  obtain ⟨a, c, rfl, hnc, hcm⟩ := hS.form
  have hm := hS.le
  have HS := Lib.hid hS
  have HL := Lib.hid hL
  obtain ⟨p, hp⟩ : ∃ p, p = isOf m := ⟨_, rfl⟩
  have hpe : ∀ x, p x = (x.name.toList == m.name.toList) := fun x => by rw [hp]; rfl
  have hyes : ∀ k (h : k < xs.length), p xs[k] = true → (∀ j (hj : j < xs.length), j < k → p xs[j] = false) → matchB m xs = ofB m.kind xs[k].value m.value := fun k h h1 h2 => by
    unfold matchB
    rw [← hp, find_here h h1 h2]
  have hno : (∀ j (hj : j < xs.length), p xs[j] = false) → matchB m xs = decide (m.kind = 1) := fun h2 => by
    unfold matchB
    rw [← hp, find_not h2]
  obtain ⟨r, hr⟩ : ∃ r, r = matchB m xs := ⟨_, rfl⟩
  rw [← hr] at hyes hno ⊢
  obtain ⟨kd, n, u⟩ := m
  simp only at hk hpe hyes hno hmv
  unfold maxLen at hm hmv
  unfold matV
  have HY := Lib.hid hyes
  have HNO := Lib.hid hno
  have HPE := Lib.hid hpe
  clear hS hL hyes hno hpe hp hr
  go_enter Try.func46, Try.ntmps46
  go_wp2
  go_loopw [10] (fun i wr => ∃ k : Nat, k ≤ xs.length ∧ i = .int .i64 k ∧ (∀ j (hj : j < xs.length), j < k → p xs[j] = false) ∧ Below (w.alloc (.cells #[.int .i64 kd, .string n, .string u] 35)).heap.size (w.alloc (.cells #[.int .i64 kd, .string n, .string u] 35)) wr) (fun i _ => xs.length - (intOf i).toNat)
  case atStart => exact ⟨0, Nat.zero_le _, rfl, fun j _ hj => absurd hj (by omega), Below.refl _ _⟩
  case round =>
    obtain ⟨k, hk', rfl, hall, hbel⟩ := hrel
    have HA := Lib.hid hall
    clear hall
    obtain ⟨xr, rfl⟩ := ext_of hbel
    clear hbel
    by_cases hlt : k < xs.length
    · obtain ⟨b, o, rfl, hbl, hcell⟩ := HS.out.at (by omega)
      have g0 := labs_get xs k hlt
      have k0 : w.cell? ⟨b, o + k * 2, none⟩ = some (.string xs[k].name) := hcell _ _ g0.1
      have k1 : w.cell? ⟨b, o + k * 2 + 1, none⟩ = some (.string xs[k].value) := by rw [Nat.add_assoc]; exact hcell _ _ g0.2
      have hok := HL.out xs[k] (List.getElem_mem hlt)
      have hy := HY.out k hlt
      have hpk := HPE.out xs[k]
      obtain ⟨x, hx⟩ : ∃ x, x = xs[k] := ⟨_, rfl⟩
      have HX := Lib.hid hx
      rw [← hx] at k0 k1 hok hy hpk
      clear hcell g0 hx
      cases hq : (x.name.toList == n.toList)
      · rw [hq] at hpk
        have HP := Lib.hid hpk
        clear hpk hy hok
        go_wp2
        refine ⟨⟨k + 1, by omega, by go_num, fun j hj hjk => ?_, (by repeat (first | exact Below.refl _ _ | apply bal | apply bext | apply bdr | apply bdrN | (refine bst ?_ _ (by simp only [ext_size, size_alloc, size_set]; omega))))⟩, by simp [intOf]; omega⟩
        rcases Nat.lt_succ_iff_lt_or_eq.1 hjk with h | rfl
        · exact HA.out j hj h
        · rw [← HX.out]; exact HP.out
      · rw [hq] at hpk
        have hres := hy hpk HA.out
        have HRES := Lib.hid hres
        obtain ⟨_, hv⟩ := hok
        unfold maxLen at hv
        clear hpk hy hres
        rcases (show kd = 0 ∨ kd = 1 ∨ kd = 2 ∨ kd = 3 by omega) with rfl | rfl | rfl | rfl
        · clear hk
          go_wp2
          all_goals
            go_ret
            refine ⟨ret_bool ?_, (by repeat (first | exact Below.refl _ _ | apply bal | apply bext))⟩
            rw [HRES.out]
            simp [ofB]
        · clear hk
          go_wp2
          all_goals
            go_ret
            refine ⟨ret_bool ?_, (by repeat (first | exact Below.refl _ _ | apply bal | apply bext))⟩
            rw [HRES.out]
            simp [ofB]
        · clear hk
          rcases Nat.lt_or_ge x.value.size u.size with c1 | c1
          · have q1 : decide ((u.size : Int) ≤ x.value.size) = false := by simp; omega
            have q3 : decide (u.size ≤ x.value.size) = false := by simp; omega
            go_wp2
            refine wp_region_ext (by kernel_rfl) (by kernel_rfl) ?_
            repeat (go_big_quiet_step ((fail)))
            refine wpQuiet_nil ?_
            intro _ hw'
            obtain ⟨y1, rfl⟩ := hw'
            go_wp2
            go_ret
            refine ⟨ret_bool ?_, (by repeat (first | exact Below.refl _ _ | apply bal | apply bext))⟩
            rw [HRES.out]
            simp [ofB, pre_no c1]
          · have q1 : decide ((u.size : Int) ≤ x.value.size) = true := by simp; omega
            have q3 : decide (u.size ≤ x.value.size) = true := by simp; omega
            have q2 : (u.size : Int) ≤ x.value.size := by omega
            go_wp2
            refine wp_region_ext (by kernel_rfl) (by kernel_rfl) ?_
            repeat (go_big_quiet_step ((fail)))
            refine wpQuiet_nil ?_
            intro _ hw'
            obtain ⟨y1, rfl⟩ := hw'
            go_wp2
            go_ret
            refine ⟨ret_bool ?_, (by repeat (first | exact Below.refl _ _ | apply bal | apply bext))⟩
            rw [HRES.out]
            simp [ofB, ← pre_yes c1]
        · clear hk
          go_wp2
          refine wp_region_ext (by kernel_rfl) (by kernel_rfl) ?_
          repeat (go_big_quiet_step ((fail)))
          refine wpQuiet_nil ?_
          intro _ hw'
          obtain ⟨y1, rfl⟩ := hw'
          go_wp2
          go_ret
          refine ⟨ret_bool ?_, (by repeat (first | exact Below.refl _ _ | apply bal | apply bext))⟩
          rw [HRES.out]
          simp [ofB]
    · have hres := HNO.out (fun j hj => HA.out j hj (by omega))
      have HRES := Lib.hid hres
      clear hres
      go_wp2
      all_goals
        go_ret
        refine ⟨ret_bool ?_, (by repeat (first | exact Below.refl _ _ | apply bal | apply bext))⟩
        rw [HRES.out]
        rw [Bool.eq_iff_iff]; simp
end Go.Proofs.Ytndgollcganhmaa
/- Contracts of foghornref10: All, Same. -/
namespace Go.Proofs.Ytndgollcganhmaa
open Go.RowKit
attribute [local go_sem high] ext_size ext_cell ext_frozen alloc_cell alloc_frozen
theorem allB_no {ms : List Mat} {xs : List Lab} {k : Nat} (h : k < ms.length) (hp : matchB ms[k] xs = false) : false = allB ms xs := by
  unfold allB
  have : ms.any (fun x => !matchB x xs) = true := List.any_eq_true.2 ⟨ms[k], List.getElem_mem h, by rw [hp]; rfl⟩
  rw [this]
  rfl
theorem allB_all {ms : List Mat} {xs : List Lab} (h : ∀ k (hk : k < ms.length), matchB ms[k] xs = true) : true = allB ms xs := by
  unfold allB
  have : ms.any (fun x => !matchB x xs) = false := by
    rw [List.any_eq_false]
    intro x hx
    obtain ⟨k, hk, rfl⟩ := List.mem_iff_getElem.1 hx
    simp [h k hk]
  rw [this]
  rfl
theorem refAll_any (u v : Value) (ms : List Mat) (xs : List Lab) (w : World) (hM : SlAt w u 3 ms.length (matsC ms)) (hS : SlAt w v 2 xs.length (labsC xs)) (hm : MatsOk ms) (hl : LabsOk xs) (hkd : ∀ m ∈ ms, matB m = true) :
    Calls Try.prog 22 #[u, v] w fun e w' => e = .returned (.bool (allB ms xs)) ∧ Below w.heap.size w w' := by
  obtain ⟨a, c, rfl, hnc, hcm⟩ := hS.form
  obtain ⟨a2, c2, rfl, hnc2, hcm2⟩ := hM.form
  have hml := hM.le
  have HS := Lib.hid hS
  have HM := Lib.hid hM
  have HMA := Lib.hid fun (k : Nat) (hk : k < ms.length) W (h : SlAt W (Value.slice a xs.length c) 2 xs.length (labsC xs)) => refMatch_any ms[k] _ xs W (matB_kind (hkd _ (List.getElem_mem hk))) h hl (hm _ (List.getElem_mem hk)).2
  unfold maxLen at hml
  clear hS hM hm hl hkd
  go_enter Try.func22, Try.ntmps22
  go_wp2
  go_loopw [9] (fun i wr => ∃ k : Nat, k ≤ ms.length ∧ i = .int .i64 k ∧ (∀ j (hj : j < ms.length), j < k → matchB ms[j] xs = true) ∧ Below w.heap.size w wr) (fun i _ => ms.length - (intOf i).toNat)
  case atStart => exact ⟨0, Nat.zero_le _, rfl, fun j _ hj => absurd hj (by omega), Below.refl _ _⟩
  case round =>
    obtain ⟨k, hk, rfl, hall, hbel⟩ := hrel
    have HA := Lib.hid hall
    clear hall
    obtain ⟨xr, rfl⟩ := ext_of hbel
    clear hbel
    by_cases hlt : k < ms.length
    · obtain ⟨b, o, rfl, hbl, hcell⟩ := HM.out.at (by omega)
      have g0 := mats_get ms k hlt
      have k0 : w.cell? ⟨b, o + k * 3, none⟩ = some (.int .i64 ms[k].kind) := hcell _ _ g0.1
      have k1 : w.cell? ⟨b, o + k * 3 + 1, none⟩ = some (.string ms[k].name) := by rw [Nat.add_assoc]; exact hcell _ _ g0.2.1
      have k2 : w.cell? ⟨b, o + k * 3 + 2, none⟩ = some (.string ms[k].value) := by rw [Nat.add_assoc]; exact hcell _ _ g0.2.2
      have hmm := HMA.out k hlt
      unfold matV at hmm
      have HMM := Lib.hid hmm
      clear hmm hcell g0
      cases hb : matchB ms[k] xs
      all_goals
        rw [hb] at HMM
        have HB := Lib.hid hb
        clear hb
        go_wp2_with fail
        refine (HMM.out _ (HS.out.stay (by repeat (first | exact Below.refl _ _ | apply bal | apply bext | apply bdr | apply bdrN | (refine bst ?_ _ (by simp only [ext_size, size_alloc, size_set]; omega)))))).mono ?_
        rintro e w' ⟨rfl, hb⟩
        obtain ⟨y1, rfl⟩ := ext_of hb
        clear hb
        go_wp2_with fail
      · go_ret
        exact ⟨ret_bool (allB_no hlt HB.out), (by repeat (first | exact Below.refl _ _ | apply bal | apply bext | apply bdr | apply bdrN | (refine bst ?_ _ (by simp only [ext_size, size_alloc, size_set]; omega))))⟩
      · refine ⟨⟨k + 1, by omega, by go_num, fun j hj hjk => ?_, (by repeat (first | exact Below.refl _ _ | apply bal | apply bext | apply bdr | apply bdrN | (refine bst ?_ _ (by simp only [ext_size, size_alloc, size_set]; omega))))⟩, by simp [intOf]; omega⟩
        rcases Nat.lt_succ_iff_lt_or_eq.1 hjk with h | rfl
        · exact HA.out j hj h
        · exact HB.out
    · go_wp2
      go_ret
      exact ⟨ret_bool (allB_all fun j hj => HA.out j hj (by omega)), (by repeat (first | exact Below.refl _ _ | apply bal | apply bext | apply bdr | apply bdrN | (refine bst ?_ _ (by simp only [ext_size, size_alloc, size_set]; omega))))⟩
theorem lab_ext {x y : Lab} (h : (x.name.toList == y.name.toList) = true) (h2 : (x.value.toList == y.value.toList) = true) : x = y := by
  obtain ⟨n, v⟩ := x
  obtain ⟨n2, v2⟩ := y
  have e1 : n = n2 := bytes_of_eq h
  have e2 : v = v2 := bytes_of_eq h2
  rw [e1, e2]
theorem refSameL_any (u v : Value) (xs ys : List Lab) (w : World) (hS : SlAt w u 2 xs.length (labsC xs)) (hT : SlAt w v 2 ys.length (labsC ys)) :
    Calls Try.prog 17 #[u, v] w fun e w' => e = .returned (.bool (decide (xs = ys))) ∧ Below w.heap.size w w' := by
  obtain ⟨a, c, rfl, hnc, hcm⟩ := hS.form
  obtain ⟨a2, c2, rfl, hnc2, hcm2⟩ := hT.form
  have hm := hS.le
  unfold maxLen at hm
  have HS := Lib.hid hS
  have HT := Lib.hid hT
  clear hS hT
  obtain ⟨n, hxn⟩ : ∃ n, xs.length = n := ⟨_, rfl⟩
  obtain ⟨n2, hyn⟩ : ∃ n, ys.length = n := ⟨_, rfl⟩
  rw [hxn] at HS hm hnc ⊢
  rw [hyn] at HT hnc2 ⊢
  have HXN := Lib.hid hxn
  have HYN := Lib.hid hyn
  obtain ⟨r, hr⟩ : ∃ r, r = decide (xs = ys) := ⟨_, rfl⟩
  rw [← hr]
  have HR := Lib.hid hr
  clear hxn hyn hr
  by_cases hl : n = n2
  · subst hl
    go_enter Try.func17, Try.ntmps17
    go_wp2
    go_loopw [5, 13] (fun _ i wr => ∃ k : Nat, k ≤ n ∧ i = .int .i64 k ∧ (∀ j (h1 : j < xs.length) (h2 : j < ys.length), j < k → xs[j] = ys[j]) ∧ Below w.heap.size w wr) (fun _ i _ => n - (intOf i).toNat)
    case atStart => exact ⟨0, Nat.zero_le _, rfl, fun j _ _ hj => absurd hj (by omega), Below.refl _ _⟩
    case round =>
      obtain ⟨k, hk, rfl, hno, hbel⟩ := hrel
      have HN := Lib.hid hno
      clear hno
      obtain ⟨xr, rfl⟩ := ext_of hbel
      clear hbel
      by_cases hlt : k < n
      · have hl1 : k < xs.length := by rw [HXN.out]; exact hlt
        have hl2 : k < ys.length := by rw [HYN.out]; exact hlt
        obtain ⟨b, o, rfl, hbl, hcell⟩ := HS.out.at (by omega)
        have g0 := labs_get xs k hl1
        have k0 : w.cell? ⟨b, o + k * 2, none⟩ = some (.string xs[k].name) := hcell _ _ g0.1
        have k1 : w.cell? ⟨b, o + k * 2 + 1, none⟩ = some (.string xs[k].value) := by rw [Nat.add_assoc]; exact hcell _ _ g0.2
        clear hcell g0
        obtain ⟨b2, o2, rfl, hbl2, hcell⟩ := HT.out.at (by omega)
        have g0 := labs_get ys k hl2
        have k2 : w.cell? ⟨b2, o2 + k * 2, none⟩ = some (.string ys[k].name) := hcell _ _ g0.1
        have k3 : w.cell? ⟨b2, o2 + k * 2 + 1, none⟩ = some (.string ys[k].value) := by rw [Nat.add_assoc]; exact hcell _ _ g0.2
        clear hcell g0
        obtain ⟨x, hx⟩ : ∃ x, x = xs[k] := ⟨_, rfl⟩
        obtain ⟨y, hy⟩ : ∃ y, y = ys[k] := ⟨_, rfl⟩
        rw [← hx] at k0 k1
        rw [← hy] at k2 k3
        have HX := Lib.hid hx
        have HY := Lib.hid hy
        clear hx hy
        cases q1 : (x.name.toList == y.name.toList)
        · have HQ := Lib.hid (show ¬ x = y by rintro rfl; simp at q1)
          have i1 : (k : Int) < (n : Int) := by omega
          go_wp2
          refine wp_region_ext (by kernel_rfl) (by kernel_rfl) ?_
          repeat (go_big_quiet_step ((fail)))
          refine wpQuiet_nil ?_
          intro _ hw'
          obtain ⟨y1, rfl⟩ := hw'
          go_wp2
          go_ret
          refine ⟨ret_bool ?_, (by repeat (first | exact Below.refl _ _ | apply bal | apply bext | apply bdr | apply bdrN | (refine bst ?_ _ (by simp only [ext_size, size_alloc, size_set]; omega))))⟩
          rw [HR.out]
          symm
          apply decide_eq_false
          rintro rfl
          exact HQ.out (HX.out.trans HY.out.symm)
        · cases q2 : (x.value.toList == y.value.toList)
          · have HQ := Lib.hid (show ¬ x = y by rintro rfl; simp at q2)
            have i1 : (k : Int) < (n : Int) := by omega
            go_wp2
            refine wp_region_ext (by kernel_rfl) (by kernel_rfl) ?_
            repeat (go_big_quiet_step ((fail)))
            refine wpQuiet_nil ?_
            intro _ hw'
            obtain ⟨y1, rfl⟩ := hw'
            go_wp2
            go_ret
            refine ⟨ret_bool ?_, (by repeat (first | exact Below.refl _ _ | apply bal | apply bext | apply bdr | apply bdrN | (refine bst ?_ _ (by simp only [ext_size, size_alloc, size_set]; omega))))⟩
            rw [HR.out]
            symm
            apply decide_eq_false
            rintro rfl
            exact HQ.out (HX.out.trans HY.out.symm)
          · have HQ := Lib.hid (lab_ext q1 q2)
            have i1 : (k : Int) < (n : Int) := by omega
            go_wp2
            refine wp_region_ext (by kernel_rfl) (by kernel_rfl) ?_
            repeat (go_big_quiet_step ((fail)))
            refine wpQuiet_nil ?_
            intro _ hw'
            obtain ⟨y1, rfl⟩ := hw'
            go_wp2
            refine ⟨⟨k + 1, by omega, by go_num, fun j h1 h2 hjk => ?_, (by repeat (first | exact Below.refl _ _ | apply bal | apply bext | apply bdr | apply bdrN | (refine bst ?_ _ (by simp only [ext_size, size_alloc, size_set]; omega))))⟩, by simp [intOf]; omega⟩
            rcases Nat.lt_succ_iff_lt_or_eq.1 hjk with h | rfl
            · exact HN.out j h1 h2 h
            · exact HX.out.symm.trans (HQ.out.trans HY.out)
      · go_wp2
        go_ret
        refine ⟨ret_bool ?_, (by repeat (first | exact Below.refl _ _ | apply bal | apply bext | apply bdr | apply bdrN | (refine bst ?_ _ (by simp only [ext_size, size_alloc, size_set]; omega))))⟩
        rw [HR.out]
        symm
        apply decide_eq_true
        exact List.ext_getElem (HXN.out.trans HYN.out.symm) fun j h1 h2 => HN.out j h1 h2 (by have := HXN.out; omega)
  · have hn : ((n : Int) != n2) = true := by simp; omega
    go_enter Try.func17, Try.ntmps17
    go_wp2
    go_ret
    refine ⟨ret_bool ?_, (by repeat (first | exact Below.refl _ _ | apply bal | apply bext | apply bdr | apply bdrN | (refine bst ?_ _ (by simp only [ext_size, size_alloc, size_set]; omega))))⟩
    rw [HR.out]
    symm
    apply decide_eq_false
    intro h
    exact hl (HXN.out.symm.trans ((congrArg _ h).trans HYN.out))
end Go.Proofs.Ytndgollcganhmaa
/-
  DERIVED: THE SHELF's CONTRACTS AT THIS DUMP, IN PLAIN WORDS (tools/lay-plain.mjs out of 'TryShelf.lean', which tools/lay-shelf.mjs wrote): THE SAME DECLARATIONS UNDER THE SAME NAMES: 'import', 'namespace', 'open', 'def', 'theorem' AND NOTHING ELSE: no command of the shelf's: FOR A HAND-IN. Each laying: the table of numbers ('.._ren') and one theorem, a field a fact of the dump's own or the kernel's comparison; each contract: ONE APPLICATION.
-/
namespace Go.Proofs
open Go.Shelf
def Try.sortL_ren : Go.Shelf.Ren := ⟨fun | 6 => 35 | 15 => 73 | 14 => 72 | 28 => 99 | 29 => 100 | 20 => 91 | 21 => 92 | 22 => 93 | 23 => 94 | 24 => 95 | 25 => 96 | 26 => 97 | 27 => 98 | 46 => 110 | 47 => 111 | 48 => 112 | 49 => 113 | 50 => 114 | 57 => 120 | n => n, fun | 22 => 22 | 24 => 41 | 25 => 64 | 3 => 3 | 39 => 95 | 0 => 0 | 53 => 129 | 55 => 131 | 4 => 4 | 46 => 122 | 45 => 121 | 50 => 126 | 5 => 5 | 9 => 9 | 66 => 141 | 70 => 84 | 76 => 148 | 77 => 149 | n => n, fun | n => n⟩
theorem Try.sortL : Go.Proofs.SlLaysF0.n6 Try.prog Try.sortL_ren := {
  mixed := by kernel_rfl
  f6 := ⟨Try.f35.name, by decide, Try.func35.trans (congrArg some (by kernel_rfl))⟩
  f14 := ⟨Try.f72.name, by decide, Try.func72.trans (congrArg some (by kernel_rfl))⟩
  f15 := Try.func73.trans (congrArg some (by kernel_rfl))
  f20 := ⟨Try.f91.name, by decide, Try.func91.trans (congrArg some (by kernel_rfl))⟩
  f21 := ⟨Try.f92.name, by decide, Try.func92.trans (congrArg some (by kernel_rfl))⟩
  f22 := ⟨Try.f93.name, by decide, Try.func93.trans (congrArg some (by kernel_rfl))⟩
  f23 := ⟨Try.f94.name, by decide, Try.func94.trans (congrArg some (by kernel_rfl))⟩
  f24 := ⟨Try.f95.name, by decide, Try.func95.trans (congrArg some (by kernel_rfl))⟩
  f25 := ⟨Try.f96.name, by decide, Try.func96.trans (congrArg some (by kernel_rfl))⟩
  f26 := ⟨Try.f97.name, by decide, Try.func97.trans (congrArg some (by kernel_rfl))⟩
  f27 := ⟨Try.f98.name, by decide, Try.func98.trans (congrArg some (by kernel_rfl))⟩
  f28 := Try.func99.trans (congrArg some (by kernel_rfl))
  f29 := Try.func100.trans (congrArg some (by kernel_rfl))
  f46 := ⟨Try.f110.name, by decide, Try.func110.trans (congrArg some (by kernel_rfl))⟩
  f47 := Try.func111.trans (congrArg some (by kernel_rfl))
  f48 := Try.func112.trans (congrArg some (by kernel_rfl))
  f49 := ⟨Try.f113.name, by decide, Try.func113.trans (congrArg some (by kernel_rfl))⟩
  f50 := ⟨Try.f114.name, by decide, Try.func114.trans (congrArg some (by kernel_rfl))⟩
  f57 := ⟨Try.f120.name, by decide, Try.func120.trans (congrArg some (by kernel_rfl))⟩
  t0 := Try.underlying0
  a0 := Try.isAgg0
  z0 := Try.sizeOf0
  v0 := Try.zeroValue0
  t3 := Try.underlying3
  a3 := Try.isAgg3
  z3 := Try.sizeOf3
  v3 := Try.zeroValue3
  t4 := Try.underlying4
  a4 := Try.isAgg4
  z4 := Try.sizeOf4
  v4 := Try.zeroValue4
  t5 := Try.underlying5
  a5 := Try.isAgg5
  z5 := Try.sizeOf5
  v5 := Try.zeroValue5
  t9 := Try.underlying9
  a9 := Try.isAgg9
  z9 := Try.sizeOf9
  v9 := Try.zeroValue9
  t22 := Try.underlying22
  a22 := Try.isAgg22
  z22 := Try.sizeOf22
  v22 := Try.zeroValue22
  t25 := Try.underlying64
  a25 := Try.isAgg64
  z25 := Try.sizeOf64
  v25 := Try.zeroValue64
  t39 := Try.underlying95
  a39 := Try.isAgg95
  z39 := Try.sizeOf95
  v39 := Try.zeroValue95
  t45 := Try.underlying121
  a45 := Try.isAgg121
  z45 := Try.sizeOf121
  v45 := Try.zeroValue121
  t46 := Try.underlying122
  a46 := Try.isAgg122
  z46 := Try.sizeOf122
  v46 := Try.zeroValue122
  t50 := Try.underlying126
  a50 := Try.isAgg126
  z50 := Try.sizeOf126
  v50 := Try.zeroValue126
  t53 := Try.underlying129
  a53 := Try.isAgg129
  z53 := Try.sizeOf129
  v53 := Try.zeroValue129
  t55 := Try.underlying131
  a55 := Try.isAgg131
  z55 := Try.sizeOf131
  v55 := Try.zeroValue131
  t66 := Try.underlying141
  a66 := Try.isAgg141
  z66 := Try.sizeOf141
  v66 := Try.zeroValue141
  t70 := Try.underlying84
  a70 := Try.isAgg84
  z70 := Try.sizeOf84
  v70 := Try.zeroValue84
  t76 := Try.underlying148
  a76 := Try.isAgg148
  z76 := Try.sizeOf148
  v76 := Try.zeroValue148
  t77 := Try.underlying149
  a77 := Try.isAgg149
  z77 := Try.sizeOf149
  v77 := Try.zeroValue149 }
def Try.cloneL_ren : Go.Shelf.Ren := ⟨fun | 41 => 34 | n => n, fun | 22 => 22 | 23 => 41 | 4 => 4 | n => n, fun | n => n⟩
theorem Try.cloneL : Go.Proofs.SlLaysE0.n41 Try.prog Try.cloneL_ren := {
  mixed := by kernel_rfl
  f41 := ⟨Try.f34.name, by decide, Try.func34.trans (congrArg some (by kernel_rfl))⟩
  t4 := Try.underlying4
  a4 := Try.isAgg4
  z4 := Try.sizeOf4
  v4 := Try.zeroValue4
  t22 := Try.underlying22
  a22 := Try.isAgg22
  z22 := Try.sizeOf22
  v22 := Try.zeroValue22 }
end Go.Proofs
