/- Part 2 of a proof: contracts and plain laws of what the statement reaches. No condition. -/
import Derived.Test.YtopaddpclipnjaaChecked
import Derived.LoopTactic
import Derived.Outline
import Derived.Laws.RangeAny
import Derived.Shelf.Abstract
import Derived.Defers
import Derived.Recover
import Derived.WalkLawsBesides
import Derived.Test.YtopaddpclipnjaaStoreAgainz1
set_option linter.unusedVariables false
set_option linter.unusedSimpArgs false
namespace Go.Proofs.YtopaddpclipnjaaQ.P
open Go.RowKit Go.Proofs.YtopaddpclipnjaaW.PrintWords Go.Proofs.YtopaddpclipnjaaW.PrintLast Go.Proofs.YtopaddpclipnjaaW.PrintMore
attribute [local go_sem] max2_int min2_int max_two min_two max_three min_three max_four min_four
mutual
def store_Boot.l0 : Nat → List ByteArray → Int → Int → List ByteArray → List ByteArray → Int → Int → Int → Bool → Option (List ByteArray × Int × Int × Int × Bool × List ByteArray × Int)
 | 0, _, _, _, _, _, _, _, _, _ => none
 | k + 1, x25, x26, x27, x129000, x132000, x132001, x132002, x132003, x132004 => if x27 < x26 then (if 0 ≤ x27 then (if x27 < (x25.length : Int) then (if 0 < ((rdOf ByteArray.empty x25 x27).size : Int) then (if (wrap64 (bt (rdOf ByteArray.empty x25 x27) 0)) ≤ 250 then ((seal_Open.f (rdOf ByteArray.empty x25 x27)).bind fun bt133 => (if bt133.2.2.2 = 0 then (if x27 < 2 then (if x27 = (Int.tmod bt133.1 2) then (if bt133.2.1 = 0 then (if bt133.2.2.1.toList = ([] : List UInt8) then (store_Boot.l0 k x25 x26 (wrap64 (x27 + 1)) x129000 x132000 (mx x132001 bt133.1) x132002 (mx x132003 (wrap64 (bt (rdOf ByteArray.empty x25 x27) 0))) x132004) else (store_Boot.l0 k x25 x26 (wrap64 (x27 + 1)) x129000 x132000 x132001 x132002 (mx x132003 (wrap64 (bt (rdOf ByteArray.empty x25 x27) 0))) x132004)) else (store_Boot.l0 k x25 x26 (wrap64 (x27 + 1)) x129000 x132000 x132001 x132002 (mx x132003 (wrap64 (bt (rdOf ByteArray.empty x25 x27) 0))) x132004)) else (store_Boot.l0 k x25 x26 (wrap64 (x27 + 1)) x129000 x132000 x132001 x132002 (mx x132003 (wrap64 (bt (rdOf ByteArray.empty x25 x27) 0))) x132004)) else (store_Boot.l0 k x25 x26 (wrap64 (x27 + 1)) x129000 x132000 x132001 x132002 (mx x132003 (wrap64 (bt (rdOf ByteArray.empty x25 x27) 0))) x132004)) else (store_Boot.l0 k x25 x26 (wrap64 (x27 + 1)) x129000 x132000 x132001 x132002 (mx x132003 (wrap64 (bt (rdOf ByteArray.empty x25 x27) 0))) x132004))) else ((seal_Open.f (rdOf ByteArray.empty x25 x27)).bind fun bt137 => (if bt137.2.2.2 = 0 then (if x27 < 2 then (if x27 = (Int.tmod bt137.1 2) then (if bt137.2.1 = 0 then (if bt137.2.2.1.toList = ([] : List UInt8) then (store_Boot.l0 k x25 x26 (wrap64 (x27 + 1)) x129000 x132000 (mx x132001 bt137.1) x132002 x132003 x132004) else (store_Boot.l0 k x25 x26 (wrap64 (x27 + 1)) x129000 x132000 x132001 x132002 x132003 x132004)) else (store_Boot.l0 k x25 x26 (wrap64 (x27 + 1)) x129000 x132000 x132001 x132002 x132003 x132004)) else (store_Boot.l0 k x25 x26 (wrap64 (x27 + 1)) x129000 x132000 x132001 x132002 x132003 x132004)) else (store_Boot.l0 k x25 x26 (wrap64 (x27 + 1)) x129000 x132000 x132001 x132002 x132003 x132004)) else (store_Boot.l0 k x25 x26 (wrap64 (x27 + 1)) x129000 x132000 x132001 x132002 x132003 x132004)))) else (none)) else (none)) else (none)) else (if x132001 = 0 then (some (([] : List ByteArray), 0, 0, 0, false, ([] : List ByteArray), 4)) else (store_Boot.l1 k ([] : List ByteArray) x129000 x132000 x132001 x132002 x132003 x132004))
def store_Boot.l1 : Nat → List ByteArray → List ByteArray → List ByteArray → Int → Int → Int → Bool → Option (List ByteArray × Int × Int × Int × Bool × List ByteArray × Int)
 | 0, _, _, _, _, _, _, _ => none
 | k + 1, x13, x129000, x132000, x132001, x132002, x132003, x132004 => (store_area.f x129000).bind fun t141 => (if x132002 < t141 then ((store_place.f x129000 x132001 x132002).bind fun t142 => (if 0 ≤ t142 then (if t142 < (x129000.length : Int) then ((seal_Open.f (rdOf ByteArray.empty x129000 t142)).bind fun bt144 => (if bt144.2.2.2 = 0 then (if bt144.1 = x132001 then (if bt144.2.1 = (wrap64 (x132002 + 1)) then (if x13.length < 8796093022208 then (store_Boot.l1 k (x13 ++ [bt144.2.2.1]) x129000 x132000 x132001 (wrap64 (x132002 + 1)) x132003 x132004) else (none)) else (some (x132000, x132001, x132002, x132003, x132004, x13, 0))) else (some (x132000, x132001, x132002, x132003, x132004, x13, 0))) else (some (x132000, x132001, x132002, x132003, x132004, x13, 0)))) else (none)) else (none))) else (some (x132000, x132001, x132002, x132003, x132004, x13, 0)))
end
def store_Boot.f (k : Nat) (l0_0 : List ByteArray) : Option (List ByteArray × Int × Int × Int × Bool × List ByteArray × Int) := (store_hasLog.f l0_0).bind fun t130 => (if t130 = true then (store_Boot.l0 k l0_0 (l0_0.length : Int) 0 l0_0 l0_0 0 0 0 false) else (some (([] : List ByteArray), 0, 0, 0, false, ([] : List ByteArray), 1)))
theorem store_Boot.mono_l : ∀ k, (∀ y0 y1 y2 y3 y4 y5 y6 y7 y8, LeO (store_Boot.l0 k y0 y1 y2 y3 y4 y5 y6 y7 y8) (store_Boot.l0 (k + 1) y0 y1 y2 y3 y4 y5 y6 y7 y8)) ∧ (∀ y0 y1 y2 y3 y4 y5 y6, LeO (store_Boot.l1 k y0 y1 y2 y3 y4 y5 y6) (store_Boot.l1 (k + 1) y0 y1 y2 y3 y4 y5 y6))
 | 0 => ⟨fun _ _ _ _ _ _ _ _ _ r h => by simp [store_Boot.l0] at h, fun _ _ _ _ _ _ _ r h => by simp [store_Boot.l1] at h⟩
 | k + 1 => by
  obtain ⟨ih0, ih1⟩ := store_Boot.mono_l k
  refine ⟨?_, ?_⟩
  ·intro y0 y1 y2 y3 y4 y5 y6 y7 y8
   unfold store_Boot.l0
   repeat' first
   | (with_reducible exact ih0 _ _ _ _ _ _ _ _ _)
   | (with_reducible exact ih1 _ _ _ _ _ _ _)
   | (with_reducible exact LeO.refl _)
   | (with_reducible exact LeO.none _)
   | (with_reducible refine LeO.ite ?_ ?_)
   | (with_reducible refine LeO.bind ?_ (fun _ => ?_))
   | exact ih0 _ _ _ _ _ _ _ _ _
   | exact ih1 _ _ _ _ _ _ _
   | exact LeO.none _
   | refine LeO.ite ?_ ?_
   | refine LeO.bind ?_ (fun _ => ?_)
  ·intro y0 y1 y2 y3 y4 y5 y6
   unfold store_Boot.l1
   repeat' first
   | (with_reducible exact ih0 _ _ _ _ _ _ _ _ _)
   | (with_reducible exact ih1 _ _ _ _ _ _ _)
   | (with_reducible exact LeO.refl _)
   | (with_reducible exact LeO.none _)
   | (with_reducible refine LeO.ite ?_ ?_)
   | (with_reducible refine LeO.bind ?_ (fun _ => ?_))
   | exact ih0 _ _ _ _ _ _ _ _ _
   | exact ih1 _ _ _ _ _ _ _
   | exact LeO.none _
   | refine LeO.ite ?_ ?_
   | refine LeO.bind ?_ (fun _ => ?_)
theorem store_Boot.mono : ∀ a0 k, LeO (store_Boot.f k a0) (store_Boot.f (k + 1) a0) := by
 intro a0 k
 obtain ⟨ih0, ih1⟩ := store_Boot.mono_l k
 unfold store_Boot.f
 repeat' first
   | (with_reducible exact ih0 _ _ _ _ _ _ _ _ _)
   | (with_reducible exact ih1 _ _ _ _ _ _ _)
   | (with_reducible exact LeO.refl _)
   | (with_reducible exact LeO.none _)
   | (with_reducible refine LeO.ite ?_ ?_)
   | (with_reducible refine LeO.bind ?_ (fun _ => ?_))
   | exact ih0 _ _ _ _ _ _ _ _ _
   | exact ih1 _ _ _ _ _ _ _
   | exact LeO.none _
   | refine LeO.ite ?_ ?_
   | refine LeO.bind ?_ (fun _ => ?_)
def store_Boot.T18 : Bool × List (List Nat × List Nat) := (true, [([], []), ([0], [0]), ([], []), ([], []), ([3], [3]), ([], []), ([5], [5]), ([2, 4, 6], [2, 4, 6]), ([1, 7], [1, 7]), ([8], [8]), ([9, 7], [9]), ([10], [10]), ([11], [11]), ([11], [11]), ([11], [11]), ([11], [11]), ([12, 10, 0, 1, 2, 3, 4, 5, 6, 7, 8, 9, 10, 11, 12], [12]), ([13, 16, 0, 1, 2, 3, 4, 5, 6, 7, 8, 9, 10, 11, 12, 13, 16], [13]), ([14, 17, 0, 1, 2, 3, 4, 5, 6, 7, 8, 9, 10, 11, 12, 13, 14, 16, 17], [14]), ([15, 18, 0, 1, 2, 3, 4, 5, 6, 7, 8, 9, 10, 11, 12, 13, 14, 15, 16, 17, 18], [15])])
def store_Boot.B18 : List Nat := [0, 1, 0, 0, 8, 0, 32, 124, 255, 511, 1023, 2047, 4095, 4095, 4095, 4095, 8191, 81919, 229375, 524287]
theorem store_Boot.tab18 : rtab .any (opsOf Try.f12 18) = store_Boot.T18 := by kernel_rfl
theorem store_Boot.bits18 : waitsOk store_Boot.T18.2 store_Boot.B18 = true := by kernel_rfl
set_option maxHeartbeats 8000000 in
set_option maxRecDepth 100000 in
theorem store_Boot.calls (k : Nat) (P0_0_ : Nat → Prop) (A0_0 : Option Addr) (c0_0 : Nat) (l0_0 : List ByteArray) (r1 : List ByteArray) (r2 : Int) (r3 : Int) (r4 : Int) (r5 : Bool) (r6 : List ByteArray) (r7 : Int) (w : World) (hs0_0 : Kd.V Kd.string 9 w w.heap.size (fun k_ => P0_0_ k_) (.slice A0_0 l0_0.length c0_0) l0_0) (h : store_Boot.f k l0_0 = some (r1, r2, r3, r4, r5, r6, r7)) :
  Calls Try.prog 12 #[.agg #[.slice A0_0 l0_0.length c0_0]] w fun e w' => ∃ v0_ v5_ : Value, e = .returned (.tuple #[.agg #[v0_, .int .i64 r2, .int .i64 r3, .int .i64 r4, .bool r5], v5_, .int .i64 r7]) ∧ Kd.V Kd.string 9 w' w.heap.size (fun k_ => (P0_0_ k_ ∨ w.heap.size ≤ k_) ∧ some k_ ≠ (v5_ : Value).ownBlock) v0_ r1 ∧ Kd.R Kd.string 9 w' w.heap.size (fun k_ => (w.heap.size ≤ k_)) v5_ r6 ∧ Below w.heap.size w w' := by
 have hu24 := Try.underlying24
 have hu26 := Try.underlying26
 have HO0_0 := aA (show Kd.V Kd.string 9 w w.heap.size (fun k_ => (P0_0_ k_ ∨ w.heap.size ≤ k_)) (.slice A0_0 l0_0.length c0_0) l0_0 from Kd.V_mono hs0_0 (fun k_ hk => .inl hk))
 have HB := aA (Below.refl w.heap.size w)
 have H : ((store_hasLog.f l0_0).bind fun t130 => (if t130 = true then (store_Boot.l0 k l0_0 (l0_0.length : Int) 0 l0_0 l0_0 0 0 0 false) else (some (([] : List ByteArray), 0, 0, 0, false, ([] : List ByteArray), 1)))) = some (r1, r2, r3, r4, r5, r6, r7) := h
 clear h
 replace H := Option.bind_eq_some_iff.mp H
 obtain ⟨t130, A20, H⟩ := H
 replace H : (if t130 = true then (store_Boot.l0 k l0_0 (l0_0.length : Int) 0 l0_0 l0_0 0 0 0 false) else (some (([] : List ByteArray), 0, 0, 0, false, ([] : List ByteArray), 1))) = some (r1, r2, r3, r4, r5, r6, r7) := H
 have A2 := aA A20
 clear A20
 by_cases c3 : t130 = true
 ·subst c3
  have H1 : (store_Boot.l0 k l0_0 (l0_0.length : Int) 0 l0_0 l0_0 0 0 0 false) = some (r1, r2, r3, r4, r5, r6, r7) := by rw [if_pos rfl] at H; exact H
  clear H
  have H := H1
  clear H1
  have H' := aA H
  clear H
  go_enter Try.func12, Try.ntmps12
  go_wp2_with (first | ((with_reducible refine gate_dst (N := 1) rfl ?_); refine box_event ?hg (N := 1) ?hd (cs := #[.slice A0_0 l0_0.length c0_0]) (t := 24) ?hr ?_; (case hd => rfl); (case hg => rfl); (case hr => first | (go_simp; done) | (go_simp; rfl)); intro gb128 hg w4 hbox hb; have n0_ := aA (Kd.V_below (Kd.V_elderB (by (with_reducible repeat (first | apply Kd.V_alloc | apply Kd.V_drewN | apply Kd.V_drew)); exact HO0_0.out) gb128 (Nat.le_of_eq hg.symm)) hb); have n1_ := aA (below_step mB hb); have n2_ := aA (hbox); have n3_ := aA ((bZ hg mB)); have n4_ := aA ((bZ hg mB)); clear HO0_0 HB; have HO0_0 := n0_; have HB := n1_; have BK128 := n2_; have GW128 := n3_; have GE128 := n4_; clear n0_ n1_ n2_ n3_ n4_ hb hbox hg) | ((with_reducible refine gate_dst (N := 2) rfl ?_); refine box_event ?hg (N := 2) ?hd (cs := #[.slice none 0 0, .int .i64 0, .int .i64 0, .int .i64 0, .bool false]) (t := 26) ?hr ?_; (case hd => rfl); (case hg => rfl); (case hr => first | (go_simp; done) | (go_simp; rfl)); intro gb129 hg w5 hbox hb; have n0_ := aA (Kd.V_below (Kd.V_elderB (by (with_reducible repeat (first | apply Kd.V_alloc | apply Kd.V_drewN | apply Kd.V_drew)); exact HO0_0.out) gb129 (Nat.le_of_eq hg.symm)) hb); have n1_ := aA (bB BK128.out hb); have n2_ := aA (below_step (mD1 GE128.out) hb); have n3_ := aA (hbox); have n4_ := aA ((bZ hg (mD1 GE128.out))); have n5_ := aA ((bZ hg (mD1 GE128.out))); have n6_ := aA ((bL hg BK128.out)); have n7_ := aA ((bG hg BK128.out)); clear HO0_0 BK128 HB; have HO0_0 := n0_; have BK128 := n1_; have HB := n2_; have BK129 := n3_; have GW129 := n4_; have GE129 := n5_; have NB128_129 := n6_; have NB129_128 := n7_; clear n0_ n1_ n2_ n3_ n4_ n5_ n6_ n7_ hb hbox hg; have hnb6 := NB128_129.out; have hnc6 := NB129_128.out; have hcz7_0 : w5.cell? ⟨gb128, 0, none⟩ = some (.slice A0_0 l0_0.length c0_0) := (blk_cell BK128.out 0).trans rfl; have hfz7_0 := blk_frozen BK128.out 0) | ((with_reducible refine gate_callee (f := 35) rfl ?_); refine goesL_ (some 19) rfl rfl Try.func35 (by kernel_rfl) rfl #[.agg #[.slice A0_0 l0_0.length c0_0]] rfl mS ?_; (with_reducible refine (store_hasLog.calls _ _ l0_0 true _ ?side1 ?side2 A2.out).mono ?_); (case side1 => exact mC ((Kd.V_reads' HO0_0.out).2.2)); (case side2 => exact (Kd.V_reads' HO0_0.out).2.1); rintro e w8 ⟨rfl, hb⟩; refine ⟨_, rfl, ?_⟩; have n0_ := aA (Kd.V_below (by (with_reducible repeat (first | apply Kd.V_alloc | apply Kd.V_drewN | apply Kd.V_drew)); exact HO0_0.out) hb); have n1_ := aA (bB BK128.out hb); have n2_ := aA (bB BK129.out hb); have n3_ := aA (below_step (mD2 GE128.out GE129.out) hb); clear HO0_0 BK128 BK129 HB; have HO0_0 := n0_; have BK128 := n1_; have BK129 := n2_; have HB := n3_; clear n0_ n1_ n2_ n3_; (try clear hb); (try clear hb2); (try clear hk); (try clear hi); have hcz9_0 : w8.cell? ⟨gb128, 0, none⟩ = some (.slice A0_0 l0_0.length c0_0) := (blk_cell BK128.out 0).trans rfl; have hfz9_0 := blk_frozen BK128.out 0) | ((with_reducible refine gate_dst (N := 5) rfl ?_); refine box_event ?hg (N := 5) ?hd (cs := #[.slice none 0 0, .int .i64 0, .int .i64 0, .int .i64 0, .bool false]) (t := 26) ?hr ?_; (case hd => rfl); (case hg => rfl); (case hr => first | (go_simp; done) | (go_simp; rfl)); intro gb131 hg w10 hbox hb; have n0_ := aA (Kd.V_below (Kd.V_elderB (by (with_reducible repeat (first | apply Kd.V_alloc | apply Kd.V_drewN | apply Kd.V_drew)); exact HO0_0.out) gb131 (Nat.le_of_eq hg.symm)) hb); have n1_ := aA (bB BK128.out hb); have n2_ := aA (bB BK129.out hb); have n3_ := aA (below_step (mD2 GE128.out GE129.out) hb); have n4_ := aA (hbox); have n5_ := aA ((bZ hg (mD2 GE128.out GE129.out))); have n6_ := aA ((bZ hg (mD2 GE128.out GE129.out))); have n7_ := aA ((bL hg BK128.out)); have n8_ := aA ((bG hg BK128.out)); have n9_ := aA ((bL hg BK129.out)); have n10_ := aA ((bG hg BK129.out)); clear HO0_0 BK128 BK129 HB; have HO0_0 := n0_; have BK128 := n1_; have BK129 := n2_; have HB := n3_; have BK131 := n4_; have GW131 := n5_; have GE131 := n6_; have NB128_131 := n7_; have NB131_128 := n8_; have NB129_131 := n9_; have NB131_129 := n10_; clear n0_ n1_ n2_ n3_ n4_ n5_ n6_ n7_ n8_ n9_ n10_ hb hbox hg; have hnb11 := NB131_128.out; have hnc11 := NB128_131.out; have hnb12 := NB131_129.out; have hnc12 := NB129_131.out; obtain ⟨hcz13_0, hcz13_1, hcz13_2, hcz13_3, hcz13_4⟩ := bC5 BK131.out; obtain ⟨hfz13_0, hfz13_1, hfz13_2, hfz13_3, hfz13_4⟩ := bF5 BK131.out; have hcz14_0 : w10.cell? ⟨gb128, 0, none⟩ = some (.slice A0_0 l0_0.length c0_0) := (blk_cell BK128.out 0).trans rfl; have hfz14_0 := blk_frozen BK128.out 0))
  go_loopg [27] k (fun kq v27 w' => ∃ (x27_1 : Int) (x132001_1 : Int) (x132003_1 : Int), v27 = .int .i64 x27_1 ∧ Aside0 (store_Boot.l0 kq l0_0 (l0_0.length : Int) x27_1 l0_0 l0_0 x132001_1 0 x132003_1 false = some (r1, r2, r3, r4, r5, r6, r7)) ∧ Aside0 (kq ≤ k) ∧ Aside0 (Kd.V Kd.string 9 w' w.heap.size (fun k_ => (P0_0_ k_ ∨ w.heap.size ≤ k_) ∧ k_ ≠ gb128 ∧ k_ ≠ gb129 ∧ k_ ≠ gb131) (.slice A0_0 l0_0.length c0_0) l0_0) ∧ Aside0 (Kd.V Kd.string 9 w' w.heap.size (fun k_ => (P0_0_ k_ ∨ w.heap.size ≤ k_) ∧ k_ ≠ gb128 ∧ k_ ≠ gb129 ∧ k_ ≠ gb131) (.slice A0_0 l0_0.length c0_0) l0_0) ∧ Aside0 (Kd.V Kd.string 9 w' w.heap.size (fun k_ => (P0_0_ k_ ∨ w.heap.size ≤ k_) ∧ k_ ≠ gb128 ∧ k_ ≠ gb129 ∧ k_ ≠ gb131) (.slice A0_0 l0_0.length c0_0) l0_0) ∧ Aside0 (w'.heap[gb128]? = some (.cells #[(.slice A0_0 l0_0.length c0_0)] 24 (0, 0))) ∧ Aside0 (w'.heap[gb129]? = some (.cells #[(.slice none 0 0), .int .i64 0, .int .i64 0, .int .i64 0, .bool false] 26 (0, 0))) ∧ Aside0 (w'.heap[gb131]? = some (.cells #[(.slice A0_0 l0_0.length c0_0), .int .i64 x132001_1, .int .i64 0, .int .i64 x132003_1, .bool false] 26 (0, 0))) ∧ Aside0 (Below w.heap.size w w'))
  case atStart => exact ⟨(0), (0), (0), (by first | rfl | (simp; done) | (simp [*]; done)), H', ⟨Nat.le_refl _⟩, ⟨by (with_reducible repeat (first | apply Kd.V_alloc | apply Kd.V_drewN | apply Kd.V_drew)); exact Kd.V_mono (Kd.V_far (p := ⟨gb131, 4, none⟩) (Kd.V_far (p := ⟨gb131, 3, none⟩) (Kd.V_far (p := ⟨gb131, 2, none⟩) (Kd.V_far (p := ⟨gb131, 1, none⟩) (Kd.V_far (p := ⟨gb131, 0, none⟩) (Kd.V_mono HO0_0.out (fun k_ hk => (⟨hk, hk.2⟩ : _ ∧ k_ ≠ gb131))) (fun _ hk => hk.2) (.slice A0_0 l0_0.length c0_0)) (fun _ hk => hk.2) (.int .i64 0)) (fun _ hk => hk.2) (.int .i64 0)) (fun _ hk => hk.2) (.int .i64 0)) (fun _ hk => hk.2) (.bool false)) (fun _ hk => ⟨hk.1.1.1.1, ⟨hk.1.1.1.2, ⟨hk.1.1.2, hk.1.2⟩⟩⟩)⟩, ⟨by (with_reducible repeat (first | apply Kd.V_alloc | apply Kd.V_drewN | apply Kd.V_drew)); exact Kd.V_mono (Kd.V_far (p := ⟨gb131, 4, none⟩) (Kd.V_far (p := ⟨gb131, 3, none⟩) (Kd.V_far (p := ⟨gb131, 2, none⟩) (Kd.V_far (p := ⟨gb131, 1, none⟩) (Kd.V_far (p := ⟨gb131, 0, none⟩) (Kd.V_mono HO0_0.out (fun k_ hk => (⟨hk, hk.2⟩ : _ ∧ k_ ≠ gb131))) (fun _ hk => hk.2) (.slice A0_0 l0_0.length c0_0)) (fun _ hk => hk.2) (.int .i64 0)) (fun _ hk => hk.2) (.int .i64 0)) (fun _ hk => hk.2) (.int .i64 0)) (fun _ hk => hk.2) (.bool false)) (fun _ hk => ⟨hk.1.1.1.1, ⟨hk.1.1.1.2, ⟨hk.1.1.2, hk.1.2⟩⟩⟩)⟩, ⟨by (with_reducible repeat (first | apply Kd.V_alloc | apply Kd.V_drewN | apply Kd.V_drew)); exact Kd.V_mono (Kd.V_far (p := ⟨gb131, 4, none⟩) (Kd.V_far (p := ⟨gb131, 3, none⟩) (Kd.V_far (p := ⟨gb131, 2, none⟩) (Kd.V_far (p := ⟨gb131, 1, none⟩) (Kd.V_far (p := ⟨gb131, 0, none⟩) (Kd.V_mono HO0_0.out (fun k_ hk => (⟨hk, hk.2⟩ : _ ∧ k_ ≠ gb131))) (fun _ hk => hk.2) (.slice A0_0 l0_0.length c0_0)) (fun _ hk => hk.2) (.int .i64 0)) (fun _ hk => hk.2) (.int .i64 0)) (fun _ hk => hk.2) (.int .i64 0)) (fun _ hk => hk.2) (.bool false)) (fun _ hk => ⟨hk.1.1.1.1, ⟨hk.1.1.1.2, ⟨hk.1.1.2, hk.1.2⟩⟩⟩)⟩, ⟨by (with_reducible repeat (first | refine blk_drewN ?_ _ | refine blk_drew ?_ | refine blk_alloc ?_ _)); refine blk_far ?_ NB128_131.out _; (with_reducible repeat (first | refine blk_drewN ?_ _ | refine blk_drew ?_ | refine blk_alloc ?_ _)); refine blk_far ?_ NB128_131.out _; (with_reducible repeat (first | refine blk_drewN ?_ _ | refine blk_drew ?_ | refine blk_alloc ?_ _)); refine blk_far ?_ NB128_131.out _; (with_reducible repeat (first | refine blk_drewN ?_ _ | refine blk_drew ?_ | refine blk_alloc ?_ _)); refine blk_far ?_ NB128_131.out _; (with_reducible repeat (first | refine blk_drewN ?_ _ | refine blk_drew ?_ | refine blk_alloc ?_ _)); refine blk_far ?_ NB128_131.out _; (with_reducible repeat (first | refine blk_drewN ?_ _ | refine blk_drew ?_ | refine blk_alloc ?_ _)); exact BK128.out⟩, ⟨by (with_reducible repeat (first | refine blk_drewN ?_ _ | refine blk_drew ?_ | refine blk_alloc ?_ _)); refine blk_far ?_ NB129_131.out _; (with_reducible repeat (first | refine blk_drewN ?_ _ | refine blk_drew ?_ | refine blk_alloc ?_ _)); refine blk_far ?_ NB129_131.out _; (with_reducible repeat (first | refine blk_drewN ?_ _ | refine blk_drew ?_ | refine blk_alloc ?_ _)); refine blk_far ?_ NB129_131.out _; (with_reducible repeat (first | refine blk_drewN ?_ _ | refine blk_drew ?_ | refine blk_alloc ?_ _)); refine blk_far ?_ NB129_131.out _; (with_reducible repeat (first | refine blk_drewN ?_ _ | refine blk_drew ?_ | refine blk_alloc ?_ _)); refine blk_far ?_ NB129_131.out _; (with_reducible repeat (first | refine blk_drewN ?_ _ | refine blk_drew ?_ | refine blk_alloc ?_ _)); exact BK129.out⟩, ⟨by (with_reducible repeat (first | refine blk_drewN ?_ _ | refine blk_drew ?_ | refine blk_alloc ?_ _)); refine blk_put (cs := #[.slice A0_0 l0_0.length c0_0, .int .i64 0, .int .i64 0, .int .i64 0, .bool false]) ?_ 4 _ rfl; (with_reducible repeat (first | refine blk_drewN ?_ _ | refine blk_drew ?_ | refine blk_alloc ?_ _)); refine blk_put (cs := #[.slice A0_0 l0_0.length c0_0, .int .i64 0, .int .i64 0, .int .i64 0, .bool false]) ?_ 3 _ rfl; (with_reducible repeat (first | refine blk_drewN ?_ _ | refine blk_drew ?_ | refine blk_alloc ?_ _)); refine blk_put (cs := #[.slice A0_0 l0_0.length c0_0, .int .i64 0, .int .i64 0, .int .i64 0, .bool false]) ?_ 2 _ rfl; (with_reducible repeat (first | refine blk_drewN ?_ _ | refine blk_drew ?_ | refine blk_alloc ?_ _)); refine blk_put (cs := #[.slice A0_0 l0_0.length c0_0, .int .i64 0, .int .i64 0, .int .i64 0, .bool false]) ?_ 1 _ rfl; (with_reducible repeat (first | refine blk_drewN ?_ _ | refine blk_drew ?_ | refine blk_alloc ?_ _)); refine blk_put (cs := #[.slice none 0 0, .int .i64 0, .int .i64 0, .int .i64 0, .bool false]) ?_ 0 _ rfl; (with_reducible repeat (first | refine blk_drewN ?_ _ | refine blk_drew ?_ | refine blk_alloc ?_ _)); exact BK131.out⟩, ⟨by repeat (first | (with_reducible first | exact HB.out | apply below_alloc | apply pw_below_drewN | apply below_drew1 | refine below_set ?_ GE128.out | refine below_set ?_ GE129.out | refine below_set ?_ GE131.out) | exact HB.out)⟩⟩
  case round =>
   clear H'
   try clear c1
   try clear p2
   try clear c3
   try clear c6
   try clear c11
   try clear c12
   try clear hcz13_0 hcz13_1 hcz13_2 hcz13_3 hcz13_4
   try clear hcz14_0
   try clear hcz7_0
   try clear hcz9_0
   try clear hfz13_0 hfz13_1 hfz13_2 hfz13_3 hfz13_4
   try clear hfz14_0
   try clear hfz7_0
   try clear hfz9_0
   obtain ⟨x27_1, x132001_1, x132003_1, rfl, HA, HK1, HO_25, HO_129000, HO_132000, BK128, BK129, BK131, HB⟩ := hrel
   cases gk with
   | zero => exact absurd HA.out (by simp [store_Boot.l0])
   | succ k1 =>
    have H := HA.out
    clear HA
    simp only [store_Boot.l0] at H
    by_cases c15 : x27_1 < (l0_0.length : Int)
    ·rw [if_pos c15] at H
     have c15b0 : decide (x27_1 < (l0_0.length : Int)) = true := decide_eq_true c15
     clear c15
     by_cases c16 : 0 ≤ x27_1
     ·rw [if_pos c16] at H
      have c16b0 : decide (0 ≤ x27_1) = true := decide_eq_true c16
      clear c16
      by_cases c17 : x27_1 < (l0_0.length : Int)
      ·rw [if_pos c17] at H
       have c17b0 : decide (x27_1 < (l0_0.length : Int)) = true := decide_eq_true c17
       clear c17
       by_cases c18 : 0 < ((rdOf ByteArray.empty l0_0 x27_1).size : Int)
       ·rw [if_pos c18] at H
        have c18b0 : decide (0 < ((rdOf ByteArray.empty l0_0 x27_1).size : Int)) = true := decide_eq_true c18
        have c18b1 : decide (0 < (rdOf ByteArray.empty l0_0 x27_1).size) = true := decide_eq_true (by omega)
        clear c18
        by_cases c20 : (wrap64 (bt (rdOf ByteArray.empty l0_0 x27_1) 0)) ≤ 250
        ·rw [if_pos c20] at H
         have c20b0 : decide ((wrap64 (bt (rdOf ByteArray.empty l0_0 x27_1) 0)) ≤ 250) = true := decide_eq_true c20
         clear c20
         obtain ⟨ji21, hji21⟩ : ∃ j_ : Int, (mx x132003_1 (wrap64 (bt (rdOf ByteArray.empty l0_0 x27_1) 0))) = j_ := ⟨_, rfl⟩
         replace H : ((seal_Open.f (rdOf ByteArray.empty l0_0 x27_1)).bind fun bt133 => (if bt133.2.2.2 = 0 then (if x27_1 < 2 then (if x27_1 = (Int.tmod bt133.1 2) then (if bt133.2.1 = 0 then (if bt133.2.2.1.toList = ([] : List UInt8) then (store_Boot.l0 k1 l0_0 (l0_0.length : Int) (wrap64 (x27_1 + 1)) l0_0 l0_0 (mx x132001_1 bt133.1) 0 ji21 false) else (store_Boot.l0 k1 l0_0 (l0_0.length : Int) (wrap64 (x27_1 + 1)) l0_0 l0_0 x132001_1 0 ji21 false)) else (store_Boot.l0 k1 l0_0 (l0_0.length : Int) (wrap64 (x27_1 + 1)) l0_0 l0_0 x132001_1 0 ji21 false)) else (store_Boot.l0 k1 l0_0 (l0_0.length : Int) (wrap64 (x27_1 + 1)) l0_0 l0_0 x132001_1 0 ji21 false)) else (store_Boot.l0 k1 l0_0 (l0_0.length : Int) (wrap64 (x27_1 + 1)) l0_0 l0_0 x132001_1 0 ji21 false)) else (store_Boot.l0 k1 l0_0 (l0_0.length : Int) (wrap64 (x27_1 + 1)) l0_0 l0_0 x132001_1 0 ji21 false))) = some (r1, r2, r3, r4, r5, r6, r7) := by first | (rw [hji21] at H; exact H) | (simp only [hji21] at H ⊢; exact H)
         have hji21_ : (if x132003_1 < (wrap64 (bt (rdOf ByteArray.empty l0_0 x27_1) 0)) then (wrap64 (bt (rdOf ByteArray.empty l0_0 x27_1) 0)) else x132003_1) = ji21 := hji21
         replace H := Option.bind_eq_some_iff.mp H
         obtain ⟨⟨t133, t134, t135, t136⟩, A220, H⟩ := H
         replace H : (if t136 = 0 then (if x27_1 < 2 then (if x27_1 = (Int.tmod t133 2) then (if t134 = 0 then (if t135.toList = ([] : List UInt8) then (store_Boot.l0 k1 l0_0 (l0_0.length : Int) (wrap64 (x27_1 + 1)) l0_0 l0_0 (mx x132001_1 t133) 0 ji21 false) else (store_Boot.l0 k1 l0_0 (l0_0.length : Int) (wrap64 (x27_1 + 1)) l0_0 l0_0 x132001_1 0 ji21 false)) else (store_Boot.l0 k1 l0_0 (l0_0.length : Int) (wrap64 (x27_1 + 1)) l0_0 l0_0 x132001_1 0 ji21 false)) else (store_Boot.l0 k1 l0_0 (l0_0.length : Int) (wrap64 (x27_1 + 1)) l0_0 l0_0 x132001_1 0 ji21 false)) else (store_Boot.l0 k1 l0_0 (l0_0.length : Int) (wrap64 (x27_1 + 1)) l0_0 l0_0 x132001_1 0 ji21 false)) else (store_Boot.l0 k1 l0_0 (l0_0.length : Int) (wrap64 (x27_1 + 1)) l0_0 l0_0 x132001_1 0 ji21 false)) = some (r1, r2, r3, r4, r5, r6, r7) := H
         have A22 := aA A220
         clear A220
         by_cases c23 : t136 = 0
         ·rw [if_pos c23] at H
          have c23b0 : (t136 == 0) = true := beq_iff_eq.mpr c23
          have c23b1 : (t136 != 0) = false := bne_eq_false_iff_eq.mpr c23
          clear c23
          by_cases c24 : x27_1 < 2
          ·rw [if_pos c24] at H
           have c24b0 : decide (x27_1 < 2) = true := decide_eq_true c24
           clear c24
           by_cases c25 : x27_1 = (Int.tmod t133 2)
           ·rw [if_pos c25] at H
            have c25b0 : (x27_1 == (Int.tmod t133 2)) = true := beq_iff_eq.mpr c25
            have c25b1 : (x27_1 != (Int.tmod t133 2)) = false := bne_eq_false_iff_eq.mpr c25
            clear c25
            by_cases c26 : t134 = 0
            ·rw [if_pos c26] at H
             have c26b0 : (t134 == 0) = true := beq_iff_eq.mpr c26
             have c26b1 : (t134 != 0) = false := bne_eq_false_iff_eq.mpr c26
             clear c26
             by_cases c27 : t135.toList = ([] : List UInt8)
             ·rw [if_pos c27] at H
              have c27b0 : (t135.toList == ([] : List UInt8)) = true := beq_iff_eq.mpr c27
              have c27b1 : (t135.toList != ([] : List UInt8)) = false := bne_eq_false_iff_eq.mpr c27
              clear c27
              obtain ⟨ji28, hji28⟩ : ∃ j_ : Int, (mx x132001_1 t133) = j_ := ⟨_, rfl⟩
              replace H : (store_Boot.l0 k1 l0_0 (l0_0.length : Int) (wrap64 (x27_1 + 1)) l0_0 l0_0 ji28 0 ji21 false) = some (r1, r2, r3, r4, r5, r6, r7) := by first | (rw [hji28] at H; exact H) | (simp only [hji28] at H ⊢; exact H)
              (try rw [hji28] at A22)
              have hji28_ : (if x132001_1 < t133 then t133 else x132001_1) = ji28 := hji28
              have H' := aA H
              clear H
              have p132 : 0 ≤ (x27_1 : Int) := of_decide_eq_true (by first | (with_reducible assumption) | assumption)
              have q132 : x27_1 < (l0_0.length : Int) := of_decide_eq_true (by first | (with_reducible assumption) | assumption)
              obtain ⟨ad132, e132, hx132_0⟩ := Kd.at_string (Kd.V_reads' HO_25.out).2.2 x27_1 p132 q132
              cases e132
              replace p132 := eq_true p132
              replace q132 := eq_true q132
              have p19 : 0 ≤ (0 : Int) := (by omega)
              have q19 : 0 < (rdOf ByteArray.empty l0_0 x27_1).size := (by have : (0 : Int) < ((rdOf ByteArray.empty l0_0 x27_1).size : Int) := of_decide_eq_true (by first | (with_reducible assumption) | assumption); omega)
              have hx19 : ∀ h : 0 < (rdOf ByteArray.empty l0_0 x27_1).size, (((rdOf ByteArray.empty l0_0 x27_1)[0]'h).toNat : Int) = bt (rdOf ByteArray.empty l0_0 x27_1) 0 := bt_at (rdOf ByteArray.empty l0_0 x27_1) 0
              clear p19
              have qi19 : (0 < ((rdOf ByteArray.empty l0_0 x27_1).size : Int)) = True := eq_true (of_decide_eq_true (by first | (with_reducible assumption) | assumption))
              replace q19 := eq_true q19
              have hnb29 := NB131_128.out
              have hnc29 := NB128_131.out
              have hnb30 := NB131_129.out
              have hnc30 := NB129_131.out
              obtain ⟨hcz31_0, hcz31_1, hcz31_2, hcz31_3, hcz31_4⟩ := bC5 BK131.out
              obtain ⟨hfz31_0, hfz31_1, hfz31_2, hfz31_3, hfz31_4⟩ := bF5 BK131.out
              go_wp2_with (first | ((with_reducible refine gate_callee (f := 36) rfl ?_); refine goesL_ (some 44) rfl rfl Try.func36 (by kernel_rfl) rfl #[.string (rdOf ByteArray.empty l0_0 x27_1)] rfl mS ?_; (with_reducible refine (seal_Open.calls (rdOf ByteArray.empty l0_0 x27_1) t133 t134 t135 t136 _ A22.out).mono ?_); rintro e w32 ⟨rfl, hb⟩; refine ⟨_, rfl, ?_⟩; have n0_ := aA (Kd.V_below (by (with_reducible repeat (first | apply Kd.V_alloc | apply Kd.V_drewN | apply Kd.V_drew)); exact (Kd.V_mono (Kd.V_far (p := ⟨gb131, 3, none⟩) (Kd.V_mono HO_25.out (fun k_ hk => (⟨hk, hk.2.2.2⟩ : _ ∧ k_ ≠ gb131))) (fun _ hk => hk.2) (.int .i64 ji21)) (fun _ h_ => h_.1))) hb); have n1_ := aA (Kd.V_below (by (with_reducible repeat (first | apply Kd.V_alloc | apply Kd.V_drewN | apply Kd.V_drew)); exact (Kd.V_mono (Kd.V_far (p := ⟨gb131, 3, none⟩) (Kd.V_mono HO_129000.out (fun k_ hk => (⟨hk, hk.2.2.2⟩ : _ ∧ k_ ≠ gb131))) (fun _ hk => hk.2) (.int .i64 ji21)) (fun _ h_ => h_.1))) hb); have n2_ := aA (Kd.V_below (by (with_reducible repeat (first | apply Kd.V_alloc | apply Kd.V_drewN | apply Kd.V_drew)); exact (Kd.V_mono (Kd.V_far (p := ⟨gb131, 3, none⟩) (Kd.V_mono HO_132000.out (fun k_ hk => (⟨hk, hk.2.2.2⟩ : _ ∧ k_ ≠ gb131))) (fun _ hk => hk.2) (.int .i64 ji21)) (fun _ h_ => h_.1))) hb); have n3_ := aA (blk_below (g := gb128) (o := .cells #[.slice (some ad132) l0_0.length c0_0] 24 (0, 0)) (by (with_reducible repeat (first | refine blk_drewN ?_ _ | refine blk_drew ?_ | refine blk_alloc ?_ _)); refine blk_far ?_ NB128_131.out _; (with_reducible repeat (first | refine blk_drewN ?_ _ | refine blk_drew ?_ | refine blk_alloc ?_ _)); exact BK128.out) hb); have n4_ := aA (blk_below (g := gb129) (o := .cells #[.slice none 0 0, .int .i64 0, .int .i64 0, .int .i64 0, .bool false] 26 (0, 0)) (by (with_reducible repeat (first | refine blk_drewN ?_ _ | refine blk_drew ?_ | refine blk_alloc ?_ _)); refine blk_far ?_ NB129_131.out _; (with_reducible repeat (first | refine blk_drewN ?_ _ | refine blk_drew ?_ | refine blk_alloc ?_ _)); exact BK129.out) hb); have n5_ := aA (blk_below (g := gb131) (o := .cells #[.slice (some ad132) l0_0.length c0_0, .int .i64 x132001_1, .int .i64 0, .int .i64 ji21, .bool false] 26 (0, 0)) (by (with_reducible repeat (first | refine blk_drewN ?_ _ | refine blk_drew ?_ | refine blk_alloc ?_ _)); have h_ := BK131.out; exact pK 3 (h_)) hb); have n6_ := aA (below_step (mD3 GE128.out GE129.out GE131.out) hb); clear HO_25 HO_129000 HO_132000 BK128 BK129 BK131 HB; have HO_25 := n0_; have HO_129000 := n1_; have HO_132000 := n2_; have BK128 := n3_; have BK129 := n4_; have BK131 := n5_; have HB := n6_; clear n0_ n1_ n2_ n3_ n4_ n5_ n6_; (try clear hb); (try clear hb2); (try clear hk); (try clear hi); obtain ⟨hcz33_0, hcz33_1, hcz33_2, hcz33_3, hcz33_4⟩ := bC5 BK131.out; obtain ⟨hfz33_0, hfz33_1, hfz33_2, hfz33_3, hfz33_4⟩ := bF5 BK131.out))
              go_roundg k1
              case measure => have := HK1.out; omega
              case rel => exact ⟨(wrap64 (x27_1 + 1)), (ji28), (ji21), (by first | rfl | (simp; done) | (simp [*]; done)), H', ⟨by have := HK1.out; omega⟩, ⟨by (with_reducible repeat (first | apply Kd.V_alloc | apply Kd.V_drewN | apply Kd.V_drew)); exact Kd.V_mono (Kd.V_far (p := ⟨gb131, 1, none⟩) (Kd.V_mono HO_25.out (fun k_ hk => (⟨hk, hk.2.2.2⟩ : _ ∧ k_ ≠ gb131))) (fun _ hk => hk.2) (.int .i64 ji28)) (fun _ hk => ⟨hk.1.1, ⟨hk.1.2.1, ⟨hk.1.2.2.1, hk.1.2.2.2⟩⟩⟩)⟩, ⟨by (with_reducible repeat (first | apply Kd.V_alloc | apply Kd.V_drewN | apply Kd.V_drew)); exact Kd.V_mono (Kd.V_far (p := ⟨gb131, 1, none⟩) (Kd.V_mono HO_129000.out (fun k_ hk => (⟨hk, hk.2.2.2⟩ : _ ∧ k_ ≠ gb131))) (fun _ hk => hk.2) (.int .i64 ji28)) (fun _ hk => ⟨hk.1.1, ⟨hk.1.2.1, ⟨hk.1.2.2.1, hk.1.2.2.2⟩⟩⟩)⟩, ⟨by (with_reducible repeat (first | apply Kd.V_alloc | apply Kd.V_drewN | apply Kd.V_drew)); exact Kd.V_mono (Kd.V_far (p := ⟨gb131, 1, none⟩) (Kd.V_mono HO_132000.out (fun k_ hk => (⟨hk, hk.2.2.2⟩ : _ ∧ k_ ≠ gb131))) (fun _ hk => hk.2) (.int .i64 ji28)) (fun _ hk => ⟨hk.1.1, ⟨hk.1.2.1, ⟨hk.1.2.2.1, hk.1.2.2.2⟩⟩⟩)⟩, ⟨by (with_reducible repeat (first | refine blk_drewN ?_ _ | refine blk_drew ?_ | refine blk_alloc ?_ _)); refine blk_far ?_ NB128_131.out _; (with_reducible repeat (first | refine blk_drewN ?_ _ | refine blk_drew ?_ | refine blk_alloc ?_ _)); exact BK128.out⟩, ⟨by (with_reducible repeat (first | refine blk_drewN ?_ _ | refine blk_drew ?_ | refine blk_alloc ?_ _)); refine blk_far ?_ NB129_131.out _; (with_reducible repeat (first | refine blk_drewN ?_ _ | refine blk_drew ?_ | refine blk_alloc ?_ _)); exact BK129.out⟩, ⟨by (with_reducible repeat (first | refine blk_drewN ?_ _ | refine blk_drew ?_ | refine blk_alloc ?_ _)); refine blk_put (cs := #[.slice (some ad132) l0_0.length c0_0, .int .i64 x132001_1, .int .i64 0, .int .i64 ji21, .bool false]) ?_ 1 _ rfl; (with_reducible repeat (first | refine blk_drewN ?_ _ | refine blk_drew ?_ | refine blk_alloc ?_ _)); exact BK131.out⟩, ⟨by repeat (first | (with_reducible first | exact HB.out | apply below_alloc | apply pw_below_drewN | apply below_drew1 | refine below_set ?_ GE128.out | refine below_set ?_ GE129.out | refine below_set ?_ GE131.out) | exact HB.out)⟩⟩
             ·rw [if_neg c27] at H
              have c27b0 : (t135.toList == ([] : List UInt8)) = false := beq_eq_false_iff_ne.mpr c27
              have c27b1 : (t135.toList != ([] : List UInt8)) = true := bne_iff_ne.mpr c27
              have H' := aA H
              clear H
              have p132 : 0 ≤ (x27_1 : Int) := of_decide_eq_true (by first | (with_reducible assumption) | assumption)
              have q132 : x27_1 < (l0_0.length : Int) := of_decide_eq_true (by first | (with_reducible assumption) | assumption)
              obtain ⟨ad132, e132, hx132_0⟩ := Kd.at_string (Kd.V_reads' HO_25.out).2.2 x27_1 p132 q132
              cases e132
              replace p132 := eq_true p132
              replace q132 := eq_true q132
              have p19 : 0 ≤ (0 : Int) := (by omega)
              have q19 : 0 < (rdOf ByteArray.empty l0_0 x27_1).size := (by have : (0 : Int) < ((rdOf ByteArray.empty l0_0 x27_1).size : Int) := of_decide_eq_true (by first | (with_reducible assumption) | assumption); omega)
              have hx19 : ∀ h : 0 < (rdOf ByteArray.empty l0_0 x27_1).size, (((rdOf ByteArray.empty l0_0 x27_1)[0]'h).toNat : Int) = bt (rdOf ByteArray.empty l0_0 x27_1) 0 := bt_at (rdOf ByteArray.empty l0_0 x27_1) 0
              clear p19
              have qi19 : (0 < ((rdOf ByteArray.empty l0_0 x27_1).size : Int)) = True := eq_true (of_decide_eq_true (by first | (with_reducible assumption) | assumption))
              replace q19 := eq_true q19
              have hnb34 := NB131_128.out
              have hnc34 := NB128_131.out
              have hnb35 := NB131_129.out
              have hnc35 := NB129_131.out
              obtain ⟨hcz36_0, hcz36_1, hcz36_2, hcz36_3, hcz36_4⟩ := bC5 BK131.out
              obtain ⟨hfz36_0, hfz36_1, hfz36_2, hfz36_3, hfz36_4⟩ := bF5 BK131.out
              go_wp2_with (first | ((with_reducible refine gate_callee (f := 36) rfl ?_); refine goesL_ (some 44) rfl rfl Try.func36 (by kernel_rfl) rfl #[.string (rdOf ByteArray.empty l0_0 x27_1)] rfl mS ?_; (with_reducible refine (seal_Open.calls (rdOf ByteArray.empty l0_0 x27_1) t133 t134 t135 t136 _ A22.out).mono ?_); rintro e w37 ⟨rfl, hb⟩; refine ⟨_, rfl, ?_⟩; have n0_ := aA (Kd.V_below (by (with_reducible repeat (first | apply Kd.V_alloc | apply Kd.V_drewN | apply Kd.V_drew)); exact (Kd.V_mono (Kd.V_far (p := ⟨gb131, 3, none⟩) (Kd.V_mono HO_25.out (fun k_ hk => (⟨hk, hk.2.2.2⟩ : _ ∧ k_ ≠ gb131))) (fun _ hk => hk.2) (.int .i64 ji21)) (fun _ h_ => h_.1))) hb); have n1_ := aA (Kd.V_below (by (with_reducible repeat (first | apply Kd.V_alloc | apply Kd.V_drewN | apply Kd.V_drew)); exact (Kd.V_mono (Kd.V_far (p := ⟨gb131, 3, none⟩) (Kd.V_mono HO_129000.out (fun k_ hk => (⟨hk, hk.2.2.2⟩ : _ ∧ k_ ≠ gb131))) (fun _ hk => hk.2) (.int .i64 ji21)) (fun _ h_ => h_.1))) hb); have n2_ := aA (Kd.V_below (by (with_reducible repeat (first | apply Kd.V_alloc | apply Kd.V_drewN | apply Kd.V_drew)); exact (Kd.V_mono (Kd.V_far (p := ⟨gb131, 3, none⟩) (Kd.V_mono HO_132000.out (fun k_ hk => (⟨hk, hk.2.2.2⟩ : _ ∧ k_ ≠ gb131))) (fun _ hk => hk.2) (.int .i64 ji21)) (fun _ h_ => h_.1))) hb); have n3_ := aA (blk_below (g := gb128) (o := .cells #[.slice (some ad132) l0_0.length c0_0] 24 (0, 0)) (by (with_reducible repeat (first | refine blk_drewN ?_ _ | refine blk_drew ?_ | refine blk_alloc ?_ _)); refine blk_far ?_ NB128_131.out _; (with_reducible repeat (first | refine blk_drewN ?_ _ | refine blk_drew ?_ | refine blk_alloc ?_ _)); exact BK128.out) hb); have n4_ := aA (blk_below (g := gb129) (o := .cells #[.slice none 0 0, .int .i64 0, .int .i64 0, .int .i64 0, .bool false] 26 (0, 0)) (by (with_reducible repeat (first | refine blk_drewN ?_ _ | refine blk_drew ?_ | refine blk_alloc ?_ _)); refine blk_far ?_ NB129_131.out _; (with_reducible repeat (first | refine blk_drewN ?_ _ | refine blk_drew ?_ | refine blk_alloc ?_ _)); exact BK129.out) hb); have n5_ := aA (blk_below (g := gb131) (o := .cells #[.slice (some ad132) l0_0.length c0_0, .int .i64 x132001_1, .int .i64 0, .int .i64 ji21, .bool false] 26 (0, 0)) (by (with_reducible repeat (first | refine blk_drewN ?_ _ | refine blk_drew ?_ | refine blk_alloc ?_ _)); have h_ := BK131.out; exact pK 3 (h_)) hb); have n6_ := aA (below_step (mD3 GE128.out GE129.out GE131.out) hb); clear HO_25 HO_129000 HO_132000 BK128 BK129 BK131 HB; have HO_25 := n0_; have HO_129000 := n1_; have HO_132000 := n2_; have BK128 := n3_; have BK129 := n4_; have BK131 := n5_; have HB := n6_; clear n0_ n1_ n2_ n3_ n4_ n5_ n6_; (try clear hb); (try clear hb2); (try clear hk); (try clear hi)))
              go_roundg k1
              case measure => have := HK1.out; omega
              case rel => exact ⟨(wrap64 (x27_1 + 1)), (x132001_1), (ji21), (by first | rfl | (simp; done) | (simp [*]; done)), H', ⟨by have := HK1.out; omega⟩, ⟨by (with_reducible repeat (first | apply Kd.V_alloc | apply Kd.V_drewN | apply Kd.V_drew)); exact HO_25.out⟩, ⟨by (with_reducible repeat (first | apply Kd.V_alloc | apply Kd.V_drewN | apply Kd.V_drew)); exact HO_129000.out⟩, ⟨by (with_reducible repeat (first | apply Kd.V_alloc | apply Kd.V_drewN | apply Kd.V_drew)); exact HO_132000.out⟩, ⟨by (with_reducible repeat (first | refine blk_drewN ?_ _ | refine blk_drew ?_ | refine blk_alloc ?_ _)); exact BK128.out⟩, ⟨by (with_reducible repeat (first | refine blk_drewN ?_ _ | refine blk_drew ?_ | refine blk_alloc ?_ _)); exact BK129.out⟩, ⟨by (with_reducible repeat (first | refine blk_drewN ?_ _ | refine blk_drew ?_ | refine blk_alloc ?_ _)); exact BK131.out⟩, ⟨by repeat (first | (with_reducible first | exact HB.out | apply below_alloc | apply pw_below_drewN | apply below_drew1 | refine below_set ?_ GE128.out | refine below_set ?_ GE129.out | refine below_set ?_ GE131.out) | exact HB.out)⟩⟩
            ·rw [if_neg c26] at H
             have c26b0 : (t134 == 0) = false := beq_eq_false_iff_ne.mpr c26
             have c26b1 : (t134 != 0) = true := bne_iff_ne.mpr c26
             have H' := aA H
             clear H
             have p132 : 0 ≤ (x27_1 : Int) := of_decide_eq_true (by first | (with_reducible assumption) | assumption)
             have q132 : x27_1 < (l0_0.length : Int) := of_decide_eq_true (by first | (with_reducible assumption) | assumption)
             obtain ⟨ad132, e132, hx132_0⟩ := Kd.at_string (Kd.V_reads' HO_25.out).2.2 x27_1 p132 q132
             cases e132
             replace p132 := eq_true p132
             replace q132 := eq_true q132
             have p19 : 0 ≤ (0 : Int) := (by omega)
             have q19 : 0 < (rdOf ByteArray.empty l0_0 x27_1).size := (by have : (0 : Int) < ((rdOf ByteArray.empty l0_0 x27_1).size : Int) := of_decide_eq_true (by first | (with_reducible assumption) | assumption); omega)
             have hx19 : ∀ h : 0 < (rdOf ByteArray.empty l0_0 x27_1).size, (((rdOf ByteArray.empty l0_0 x27_1)[0]'h).toNat : Int) = bt (rdOf ByteArray.empty l0_0 x27_1) 0 := bt_at (rdOf ByteArray.empty l0_0 x27_1) 0
             clear p19
             have qi19 : (0 < ((rdOf ByteArray.empty l0_0 x27_1).size : Int)) = True := eq_true (of_decide_eq_true (by first | (with_reducible assumption) | assumption))
             replace q19 := eq_true q19
             have hnb38 := NB131_128.out
             have hnc38 := NB128_131.out
             have hnb39 := NB131_129.out
             have hnc39 := NB129_131.out
             obtain ⟨hcz40_0, hcz40_1, hcz40_2, hcz40_3, hcz40_4⟩ := bC5 BK131.out
             obtain ⟨hfz40_0, hfz40_1, hfz40_2, hfz40_3, hfz40_4⟩ := bF5 BK131.out
             go_wp2_with (first | ((with_reducible refine gate_callee (f := 36) rfl ?_); refine goesL_ (some 44) rfl rfl Try.func36 (by kernel_rfl) rfl #[.string (rdOf ByteArray.empty l0_0 x27_1)] rfl mS ?_; (with_reducible refine (seal_Open.calls (rdOf ByteArray.empty l0_0 x27_1) t133 t134 t135 t136 _ A22.out).mono ?_); rintro e w41 ⟨rfl, hb⟩; refine ⟨_, rfl, ?_⟩; have n0_ := aA (Kd.V_below (by (with_reducible repeat (first | apply Kd.V_alloc | apply Kd.V_drewN | apply Kd.V_drew)); exact (Kd.V_mono (Kd.V_far (p := ⟨gb131, 3, none⟩) (Kd.V_mono HO_25.out (fun k_ hk => (⟨hk, hk.2.2.2⟩ : _ ∧ k_ ≠ gb131))) (fun _ hk => hk.2) (.int .i64 ji21)) (fun _ h_ => h_.1))) hb); have n1_ := aA (Kd.V_below (by (with_reducible repeat (first | apply Kd.V_alloc | apply Kd.V_drewN | apply Kd.V_drew)); exact (Kd.V_mono (Kd.V_far (p := ⟨gb131, 3, none⟩) (Kd.V_mono HO_129000.out (fun k_ hk => (⟨hk, hk.2.2.2⟩ : _ ∧ k_ ≠ gb131))) (fun _ hk => hk.2) (.int .i64 ji21)) (fun _ h_ => h_.1))) hb); have n2_ := aA (Kd.V_below (by (with_reducible repeat (first | apply Kd.V_alloc | apply Kd.V_drewN | apply Kd.V_drew)); exact (Kd.V_mono (Kd.V_far (p := ⟨gb131, 3, none⟩) (Kd.V_mono HO_132000.out (fun k_ hk => (⟨hk, hk.2.2.2⟩ : _ ∧ k_ ≠ gb131))) (fun _ hk => hk.2) (.int .i64 ji21)) (fun _ h_ => h_.1))) hb); have n3_ := aA (blk_below (g := gb128) (o := .cells #[.slice (some ad132) l0_0.length c0_0] 24 (0, 0)) (by (with_reducible repeat (first | refine blk_drewN ?_ _ | refine blk_drew ?_ | refine blk_alloc ?_ _)); refine blk_far ?_ NB128_131.out _; (with_reducible repeat (first | refine blk_drewN ?_ _ | refine blk_drew ?_ | refine blk_alloc ?_ _)); exact BK128.out) hb); have n4_ := aA (blk_below (g := gb129) (o := .cells #[.slice none 0 0, .int .i64 0, .int .i64 0, .int .i64 0, .bool false] 26 (0, 0)) (by (with_reducible repeat (first | refine blk_drewN ?_ _ | refine blk_drew ?_ | refine blk_alloc ?_ _)); refine blk_far ?_ NB129_131.out _; (with_reducible repeat (first | refine blk_drewN ?_ _ | refine blk_drew ?_ | refine blk_alloc ?_ _)); exact BK129.out) hb); have n5_ := aA (blk_below (g := gb131) (o := .cells #[.slice (some ad132) l0_0.length c0_0, .int .i64 x132001_1, .int .i64 0, .int .i64 ji21, .bool false] 26 (0, 0)) (by (with_reducible repeat (first | refine blk_drewN ?_ _ | refine blk_drew ?_ | refine blk_alloc ?_ _)); have h_ := BK131.out; exact pK 3 (h_)) hb); have n6_ := aA (below_step (mD3 GE128.out GE129.out GE131.out) hb); clear HO_25 HO_129000 HO_132000 BK128 BK129 BK131 HB; have HO_25 := n0_; have HO_129000 := n1_; have HO_132000 := n2_; have BK128 := n3_; have BK129 := n4_; have BK131 := n5_; have HB := n6_; clear n0_ n1_ n2_ n3_ n4_ n5_ n6_; (try clear hb); (try clear hb2); (try clear hk); (try clear hi)))
             go_roundg k1
             case measure => have := HK1.out; omega
             case rel => exact ⟨(wrap64 (x27_1 + 1)), (x132001_1), (ji21), (by first | rfl | (simp; done) | (simp [*]; done)), H', ⟨by have := HK1.out; omega⟩, ⟨by (with_reducible repeat (first | apply Kd.V_alloc | apply Kd.V_drewN | apply Kd.V_drew)); exact HO_25.out⟩, ⟨by (with_reducible repeat (first | apply Kd.V_alloc | apply Kd.V_drewN | apply Kd.V_drew)); exact HO_129000.out⟩, ⟨by (with_reducible repeat (first | apply Kd.V_alloc | apply Kd.V_drewN | apply Kd.V_drew)); exact HO_132000.out⟩, ⟨by (with_reducible repeat (first | refine blk_drewN ?_ _ | refine blk_drew ?_ | refine blk_alloc ?_ _)); exact BK128.out⟩, ⟨by (with_reducible repeat (first | refine blk_drewN ?_ _ | refine blk_drew ?_ | refine blk_alloc ?_ _)); exact BK129.out⟩, ⟨by (with_reducible repeat (first | refine blk_drewN ?_ _ | refine blk_drew ?_ | refine blk_alloc ?_ _)); exact BK131.out⟩, ⟨by repeat (first | (with_reducible first | exact HB.out | apply below_alloc | apply pw_below_drewN | apply below_drew1 | refine below_set ?_ GE128.out | refine below_set ?_ GE129.out | refine below_set ?_ GE131.out) | exact HB.out)⟩⟩
           ·rw [if_neg c25] at H
            have c25b0 : (x27_1 == (Int.tmod t133 2)) = false := beq_eq_false_iff_ne.mpr c25
            have c25b1 : (x27_1 != (Int.tmod t133 2)) = true := bne_iff_ne.mpr c25
            have H' := aA H
            clear H
            have p132 : 0 ≤ (x27_1 : Int) := of_decide_eq_true (by first | (with_reducible assumption) | assumption)
            have q132 : x27_1 < (l0_0.length : Int) := of_decide_eq_true (by first | (with_reducible assumption) | assumption)
            obtain ⟨ad132, e132, hx132_0⟩ := Kd.at_string (Kd.V_reads' HO_25.out).2.2 x27_1 p132 q132
            cases e132
            replace p132 := eq_true p132
            replace q132 := eq_true q132
            have p19 : 0 ≤ (0 : Int) := (by omega)
            have q19 : 0 < (rdOf ByteArray.empty l0_0 x27_1).size := (by have : (0 : Int) < ((rdOf ByteArray.empty l0_0 x27_1).size : Int) := of_decide_eq_true (by first | (with_reducible assumption) | assumption); omega)
            have hx19 : ∀ h : 0 < (rdOf ByteArray.empty l0_0 x27_1).size, (((rdOf ByteArray.empty l0_0 x27_1)[0]'h).toNat : Int) = bt (rdOf ByteArray.empty l0_0 x27_1) 0 := bt_at (rdOf ByteArray.empty l0_0 x27_1) 0
            clear p19
            have qi19 : (0 < ((rdOf ByteArray.empty l0_0 x27_1).size : Int)) = True := eq_true (of_decide_eq_true (by first | (with_reducible assumption) | assumption))
            replace q19 := eq_true q19
            have hnb42 := NB131_128.out
            have hnc42 := NB128_131.out
            have hnb43 := NB131_129.out
            have hnc43 := NB129_131.out
            obtain ⟨hcz44_0, hcz44_1, hcz44_2, hcz44_3, hcz44_4⟩ := bC5 BK131.out
            obtain ⟨hfz44_0, hfz44_1, hfz44_2, hfz44_3, hfz44_4⟩ := bF5 BK131.out
            go_wp2_with (first | ((with_reducible refine gate_callee (f := 36) rfl ?_); refine goesL_ (some 44) rfl rfl Try.func36 (by kernel_rfl) rfl #[.string (rdOf ByteArray.empty l0_0 x27_1)] rfl mS ?_; (with_reducible refine (seal_Open.calls (rdOf ByteArray.empty l0_0 x27_1) t133 t134 t135 t136 _ A22.out).mono ?_); rintro e w45 ⟨rfl, hb⟩; refine ⟨_, rfl, ?_⟩; have n0_ := aA (Kd.V_below (by (with_reducible repeat (first | apply Kd.V_alloc | apply Kd.V_drewN | apply Kd.V_drew)); exact (Kd.V_mono (Kd.V_far (p := ⟨gb131, 3, none⟩) (Kd.V_mono HO_25.out (fun k_ hk => (⟨hk, hk.2.2.2⟩ : _ ∧ k_ ≠ gb131))) (fun _ hk => hk.2) (.int .i64 ji21)) (fun _ h_ => h_.1))) hb); have n1_ := aA (Kd.V_below (by (with_reducible repeat (first | apply Kd.V_alloc | apply Kd.V_drewN | apply Kd.V_drew)); exact (Kd.V_mono (Kd.V_far (p := ⟨gb131, 3, none⟩) (Kd.V_mono HO_129000.out (fun k_ hk => (⟨hk, hk.2.2.2⟩ : _ ∧ k_ ≠ gb131))) (fun _ hk => hk.2) (.int .i64 ji21)) (fun _ h_ => h_.1))) hb); have n2_ := aA (Kd.V_below (by (with_reducible repeat (first | apply Kd.V_alloc | apply Kd.V_drewN | apply Kd.V_drew)); exact (Kd.V_mono (Kd.V_far (p := ⟨gb131, 3, none⟩) (Kd.V_mono HO_132000.out (fun k_ hk => (⟨hk, hk.2.2.2⟩ : _ ∧ k_ ≠ gb131))) (fun _ hk => hk.2) (.int .i64 ji21)) (fun _ h_ => h_.1))) hb); have n3_ := aA (blk_below (g := gb128) (o := .cells #[.slice (some ad132) l0_0.length c0_0] 24 (0, 0)) (by (with_reducible repeat (first | refine blk_drewN ?_ _ | refine blk_drew ?_ | refine blk_alloc ?_ _)); refine blk_far ?_ NB128_131.out _; (with_reducible repeat (first | refine blk_drewN ?_ _ | refine blk_drew ?_ | refine blk_alloc ?_ _)); exact BK128.out) hb); have n4_ := aA (blk_below (g := gb129) (o := .cells #[.slice none 0 0, .int .i64 0, .int .i64 0, .int .i64 0, .bool false] 26 (0, 0)) (by (with_reducible repeat (first | refine blk_drewN ?_ _ | refine blk_drew ?_ | refine blk_alloc ?_ _)); refine blk_far ?_ NB129_131.out _; (with_reducible repeat (first | refine blk_drewN ?_ _ | refine blk_drew ?_ | refine blk_alloc ?_ _)); exact BK129.out) hb); have n5_ := aA (blk_below (g := gb131) (o := .cells #[.slice (some ad132) l0_0.length c0_0, .int .i64 x132001_1, .int .i64 0, .int .i64 ji21, .bool false] 26 (0, 0)) (by (with_reducible repeat (first | refine blk_drewN ?_ _ | refine blk_drew ?_ | refine blk_alloc ?_ _)); have h_ := BK131.out; exact pK 3 (h_)) hb); have n6_ := aA (below_step (mD3 GE128.out GE129.out GE131.out) hb); clear HO_25 HO_129000 HO_132000 BK128 BK129 BK131 HB; have HO_25 := n0_; have HO_129000 := n1_; have HO_132000 := n2_; have BK128 := n3_; have BK129 := n4_; have BK131 := n5_; have HB := n6_; clear n0_ n1_ n2_ n3_ n4_ n5_ n6_; (try clear hb); (try clear hb2); (try clear hk); (try clear hi)))
            go_roundg k1
            case measure => have := HK1.out; omega
            case rel => exact ⟨(wrap64 (x27_1 + 1)), (x132001_1), (ji21), (by first | rfl | (simp; done) | (simp [*]; done)), H', ⟨by have := HK1.out; omega⟩, ⟨by (with_reducible repeat (first | apply Kd.V_alloc | apply Kd.V_drewN | apply Kd.V_drew)); exact HO_25.out⟩, ⟨by (with_reducible repeat (first | apply Kd.V_alloc | apply Kd.V_drewN | apply Kd.V_drew)); exact HO_129000.out⟩, ⟨by (with_reducible repeat (first | apply Kd.V_alloc | apply Kd.V_drewN | apply Kd.V_drew)); exact HO_132000.out⟩, ⟨by (with_reducible repeat (first | refine blk_drewN ?_ _ | refine blk_drew ?_ | refine blk_alloc ?_ _)); exact BK128.out⟩, ⟨by (with_reducible repeat (first | refine blk_drewN ?_ _ | refine blk_drew ?_ | refine blk_alloc ?_ _)); exact BK129.out⟩, ⟨by (with_reducible repeat (first | refine blk_drewN ?_ _ | refine blk_drew ?_ | refine blk_alloc ?_ _)); exact BK131.out⟩, ⟨by repeat (first | (with_reducible first | exact HB.out | apply below_alloc | apply pw_below_drewN | apply below_drew1 | refine below_set ?_ GE128.out | refine below_set ?_ GE129.out | refine below_set ?_ GE131.out) | exact HB.out)⟩⟩
          ·rw [if_neg c24] at H
           have c24b0 : decide (x27_1 < 2) = false := decide_eq_false c24
           clear c24
           have H' := aA H
           clear H
           have p132 : 0 ≤ (x27_1 : Int) := of_decide_eq_true (by first | (with_reducible assumption) | assumption)
           have q132 : x27_1 < (l0_0.length : Int) := of_decide_eq_true (by first | (with_reducible assumption) | assumption)
           obtain ⟨ad132, e132, hx132_0⟩ := Kd.at_string (Kd.V_reads' HO_25.out).2.2 x27_1 p132 q132
           cases e132
           replace p132 := eq_true p132
           replace q132 := eq_true q132
           have p19 : 0 ≤ (0 : Int) := (by omega)
           have q19 : 0 < (rdOf ByteArray.empty l0_0 x27_1).size := (by have : (0 : Int) < ((rdOf ByteArray.empty l0_0 x27_1).size : Int) := of_decide_eq_true (by first | (with_reducible assumption) | assumption); omega)
           have hx19 : ∀ h : 0 < (rdOf ByteArray.empty l0_0 x27_1).size, (((rdOf ByteArray.empty l0_0 x27_1)[0]'h).toNat : Int) = bt (rdOf ByteArray.empty l0_0 x27_1) 0 := bt_at (rdOf ByteArray.empty l0_0 x27_1) 0
           clear p19
           have qi19 : (0 < ((rdOf ByteArray.empty l0_0 x27_1).size : Int)) = True := eq_true (of_decide_eq_true (by first | (with_reducible assumption) | assumption))
           replace q19 := eq_true q19
           have hnb46 := NB131_128.out
           have hnc46 := NB128_131.out
           have hnb47 := NB131_129.out
           have hnc47 := NB129_131.out
           obtain ⟨hcz48_0, hcz48_1, hcz48_2, hcz48_3, hcz48_4⟩ := bC5 BK131.out
           obtain ⟨hfz48_0, hfz48_1, hfz48_2, hfz48_3, hfz48_4⟩ := bF5 BK131.out
           go_wp2_with (first | ((with_reducible refine gate_callee (f := 36) rfl ?_); refine goesL_ (some 44) rfl rfl Try.func36 (by kernel_rfl) rfl #[.string (rdOf ByteArray.empty l0_0 x27_1)] rfl mS ?_; (with_reducible refine (seal_Open.calls (rdOf ByteArray.empty l0_0 x27_1) t133 t134 t135 t136 _ A22.out).mono ?_); rintro e w49 ⟨rfl, hb⟩; refine ⟨_, rfl, ?_⟩; have n0_ := aA (Kd.V_below (by (with_reducible repeat (first | apply Kd.V_alloc | apply Kd.V_drewN | apply Kd.V_drew)); exact (Kd.V_mono (Kd.V_far (p := ⟨gb131, 3, none⟩) (Kd.V_mono HO_25.out (fun k_ hk => (⟨hk, hk.2.2.2⟩ : _ ∧ k_ ≠ gb131))) (fun _ hk => hk.2) (.int .i64 ji21)) (fun _ h_ => h_.1))) hb); have n1_ := aA (Kd.V_below (by (with_reducible repeat (first | apply Kd.V_alloc | apply Kd.V_drewN | apply Kd.V_drew)); exact (Kd.V_mono (Kd.V_far (p := ⟨gb131, 3, none⟩) (Kd.V_mono HO_129000.out (fun k_ hk => (⟨hk, hk.2.2.2⟩ : _ ∧ k_ ≠ gb131))) (fun _ hk => hk.2) (.int .i64 ji21)) (fun _ h_ => h_.1))) hb); have n2_ := aA (Kd.V_below (by (with_reducible repeat (first | apply Kd.V_alloc | apply Kd.V_drewN | apply Kd.V_drew)); exact (Kd.V_mono (Kd.V_far (p := ⟨gb131, 3, none⟩) (Kd.V_mono HO_132000.out (fun k_ hk => (⟨hk, hk.2.2.2⟩ : _ ∧ k_ ≠ gb131))) (fun _ hk => hk.2) (.int .i64 ji21)) (fun _ h_ => h_.1))) hb); have n3_ := aA (blk_below (g := gb128) (o := .cells #[.slice (some ad132) l0_0.length c0_0] 24 (0, 0)) (by (with_reducible repeat (first | refine blk_drewN ?_ _ | refine blk_drew ?_ | refine blk_alloc ?_ _)); refine blk_far ?_ NB128_131.out _; (with_reducible repeat (first | refine blk_drewN ?_ _ | refine blk_drew ?_ | refine blk_alloc ?_ _)); exact BK128.out) hb); have n4_ := aA (blk_below (g := gb129) (o := .cells #[.slice none 0 0, .int .i64 0, .int .i64 0, .int .i64 0, .bool false] 26 (0, 0)) (by (with_reducible repeat (first | refine blk_drewN ?_ _ | refine blk_drew ?_ | refine blk_alloc ?_ _)); refine blk_far ?_ NB129_131.out _; (with_reducible repeat (first | refine blk_drewN ?_ _ | refine blk_drew ?_ | refine blk_alloc ?_ _)); exact BK129.out) hb); have n5_ := aA (blk_below (g := gb131) (o := .cells #[.slice (some ad132) l0_0.length c0_0, .int .i64 x132001_1, .int .i64 0, .int .i64 ji21, .bool false] 26 (0, 0)) (by (with_reducible repeat (first | refine blk_drewN ?_ _ | refine blk_drew ?_ | refine blk_alloc ?_ _)); have h_ := BK131.out; exact pK 3 (h_)) hb); have n6_ := aA (below_step (mD3 GE128.out GE129.out GE131.out) hb); clear HO_25 HO_129000 HO_132000 BK128 BK129 BK131 HB; have HO_25 := n0_; have HO_129000 := n1_; have HO_132000 := n2_; have BK128 := n3_; have BK129 := n4_; have BK131 := n5_; have HB := n6_; clear n0_ n1_ n2_ n3_ n4_ n5_ n6_; (try clear hb); (try clear hb2); (try clear hk); (try clear hi)))
           go_roundg k1
           case measure => have := HK1.out; omega
           case rel => exact ⟨(wrap64 (x27_1 + 1)), (x132001_1), (ji21), (by first | rfl | (simp; done) | (simp [*]; done)), H', ⟨by have := HK1.out; omega⟩, ⟨by (with_reducible repeat (first | apply Kd.V_alloc | apply Kd.V_drewN | apply Kd.V_drew)); exact HO_25.out⟩, ⟨by (with_reducible repeat (first | apply Kd.V_alloc | apply Kd.V_drewN | apply Kd.V_drew)); exact HO_129000.out⟩, ⟨by (with_reducible repeat (first | apply Kd.V_alloc | apply Kd.V_drewN | apply Kd.V_drew)); exact HO_132000.out⟩, ⟨by (with_reducible repeat (first | refine blk_drewN ?_ _ | refine blk_drew ?_ | refine blk_alloc ?_ _)); exact BK128.out⟩, ⟨by (with_reducible repeat (first | refine blk_drewN ?_ _ | refine blk_drew ?_ | refine blk_alloc ?_ _)); exact BK129.out⟩, ⟨by (with_reducible repeat (first | refine blk_drewN ?_ _ | refine blk_drew ?_ | refine blk_alloc ?_ _)); exact BK131.out⟩, ⟨by repeat (first | (with_reducible first | exact HB.out | apply below_alloc | apply pw_below_drewN | apply below_drew1 | refine below_set ?_ GE128.out | refine below_set ?_ GE129.out | refine below_set ?_ GE131.out) | exact HB.out)⟩⟩
         ·rw [if_neg c23] at H
          have c23b0 : (t136 == 0) = false := beq_eq_false_iff_ne.mpr c23
          have c23b1 : (t136 != 0) = true := bne_iff_ne.mpr c23
          have H' := aA H
          clear H
          have p132 : 0 ≤ (x27_1 : Int) := of_decide_eq_true (by first | (with_reducible assumption) | assumption)
          have q132 : x27_1 < (l0_0.length : Int) := of_decide_eq_true (by first | (with_reducible assumption) | assumption)
          obtain ⟨ad132, e132, hx132_0⟩ := Kd.at_string (Kd.V_reads' HO_25.out).2.2 x27_1 p132 q132
          cases e132
          replace p132 := eq_true p132
          replace q132 := eq_true q132
          have p19 : 0 ≤ (0 : Int) := (by omega)
          have q19 : 0 < (rdOf ByteArray.empty l0_0 x27_1).size := (by have : (0 : Int) < ((rdOf ByteArray.empty l0_0 x27_1).size : Int) := of_decide_eq_true (by first | (with_reducible assumption) | assumption); omega)
          have hx19 : ∀ h : 0 < (rdOf ByteArray.empty l0_0 x27_1).size, (((rdOf ByteArray.empty l0_0 x27_1)[0]'h).toNat : Int) = bt (rdOf ByteArray.empty l0_0 x27_1) 0 := bt_at (rdOf ByteArray.empty l0_0 x27_1) 0
          clear p19
          have qi19 : (0 < ((rdOf ByteArray.empty l0_0 x27_1).size : Int)) = True := eq_true (of_decide_eq_true (by first | (with_reducible assumption) | assumption))
          replace q19 := eq_true q19
          have hnb50 := NB131_128.out
          have hnc50 := NB128_131.out
          have hnb51 := NB131_129.out
          have hnc51 := NB129_131.out
          obtain ⟨hcz52_0, hcz52_1, hcz52_2, hcz52_3, hcz52_4⟩ := bC5 BK131.out
          obtain ⟨hfz52_0, hfz52_1, hfz52_2, hfz52_3, hfz52_4⟩ := bF5 BK131.out
          go_wp2_with (first | ((with_reducible refine gate_callee (f := 36) rfl ?_); refine goesL_ (some 44) rfl rfl Try.func36 (by kernel_rfl) rfl #[.string (rdOf ByteArray.empty l0_0 x27_1)] rfl mS ?_; (with_reducible refine (seal_Open.calls (rdOf ByteArray.empty l0_0 x27_1) t133 t134 t135 t136 _ A22.out).mono ?_); rintro e w53 ⟨rfl, hb⟩; refine ⟨_, rfl, ?_⟩; have n0_ := aA (Kd.V_below (by (with_reducible repeat (first | apply Kd.V_alloc | apply Kd.V_drewN | apply Kd.V_drew)); exact (Kd.V_mono (Kd.V_far (p := ⟨gb131, 3, none⟩) (Kd.V_mono HO_25.out (fun k_ hk => (⟨hk, hk.2.2.2⟩ : _ ∧ k_ ≠ gb131))) (fun _ hk => hk.2) (.int .i64 ji21)) (fun _ h_ => h_.1))) hb); have n1_ := aA (Kd.V_below (by (with_reducible repeat (first | apply Kd.V_alloc | apply Kd.V_drewN | apply Kd.V_drew)); exact (Kd.V_mono (Kd.V_far (p := ⟨gb131, 3, none⟩) (Kd.V_mono HO_129000.out (fun k_ hk => (⟨hk, hk.2.2.2⟩ : _ ∧ k_ ≠ gb131))) (fun _ hk => hk.2) (.int .i64 ji21)) (fun _ h_ => h_.1))) hb); have n2_ := aA (Kd.V_below (by (with_reducible repeat (first | apply Kd.V_alloc | apply Kd.V_drewN | apply Kd.V_drew)); exact (Kd.V_mono (Kd.V_far (p := ⟨gb131, 3, none⟩) (Kd.V_mono HO_132000.out (fun k_ hk => (⟨hk, hk.2.2.2⟩ : _ ∧ k_ ≠ gb131))) (fun _ hk => hk.2) (.int .i64 ji21)) (fun _ h_ => h_.1))) hb); have n3_ := aA (blk_below (g := gb128) (o := .cells #[.slice (some ad132) l0_0.length c0_0] 24 (0, 0)) (by (with_reducible repeat (first | refine blk_drewN ?_ _ | refine blk_drew ?_ | refine blk_alloc ?_ _)); refine blk_far ?_ NB128_131.out _; (with_reducible repeat (first | refine blk_drewN ?_ _ | refine blk_drew ?_ | refine blk_alloc ?_ _)); exact BK128.out) hb); have n4_ := aA (blk_below (g := gb129) (o := .cells #[.slice none 0 0, .int .i64 0, .int .i64 0, .int .i64 0, .bool false] 26 (0, 0)) (by (with_reducible repeat (first | refine blk_drewN ?_ _ | refine blk_drew ?_ | refine blk_alloc ?_ _)); refine blk_far ?_ NB129_131.out _; (with_reducible repeat (first | refine blk_drewN ?_ _ | refine blk_drew ?_ | refine blk_alloc ?_ _)); exact BK129.out) hb); have n5_ := aA (blk_below (g := gb131) (o := .cells #[.slice (some ad132) l0_0.length c0_0, .int .i64 x132001_1, .int .i64 0, .int .i64 ji21, .bool false] 26 (0, 0)) (by (with_reducible repeat (first | refine blk_drewN ?_ _ | refine blk_drew ?_ | refine blk_alloc ?_ _)); have h_ := BK131.out; exact pK 3 (h_)) hb); have n6_ := aA (below_step (mD3 GE128.out GE129.out GE131.out) hb); clear HO_25 HO_129000 HO_132000 BK128 BK129 BK131 HB; have HO_25 := n0_; have HO_129000 := n1_; have HO_132000 := n2_; have BK128 := n3_; have BK129 := n4_; have BK131 := n5_; have HB := n6_; clear n0_ n1_ n2_ n3_ n4_ n5_ n6_; (try clear hb); (try clear hb2); (try clear hk); (try clear hi)))
          go_roundg k1
          case measure => have := HK1.out; omega
          case rel => exact ⟨(wrap64 (x27_1 + 1)), (x132001_1), (ji21), (by first | rfl | (simp; done) | (simp [*]; done)), H', ⟨by have := HK1.out; omega⟩, ⟨by (with_reducible repeat (first | apply Kd.V_alloc | apply Kd.V_drewN | apply Kd.V_drew)); exact HO_25.out⟩, ⟨by (with_reducible repeat (first | apply Kd.V_alloc | apply Kd.V_drewN | apply Kd.V_drew)); exact HO_129000.out⟩, ⟨by (with_reducible repeat (first | apply Kd.V_alloc | apply Kd.V_drewN | apply Kd.V_drew)); exact HO_132000.out⟩, ⟨by (with_reducible repeat (first | refine blk_drewN ?_ _ | refine blk_drew ?_ | refine blk_alloc ?_ _)); exact BK128.out⟩, ⟨by (with_reducible repeat (first | refine blk_drewN ?_ _ | refine blk_drew ?_ | refine blk_alloc ?_ _)); exact BK129.out⟩, ⟨by (with_reducible repeat (first | refine blk_drewN ?_ _ | refine blk_drew ?_ | refine blk_alloc ?_ _)); exact BK131.out⟩, ⟨by repeat (first | (with_reducible first | exact HB.out | apply below_alloc | apply pw_below_drewN | apply below_drew1 | refine below_set ?_ GE128.out | refine below_set ?_ GE129.out | refine below_set ?_ GE131.out) | exact HB.out)⟩⟩
        ·rw [if_neg c20] at H
         have c20b0 : decide ((wrap64 (bt (rdOf ByteArray.empty l0_0 x27_1) 0)) ≤ 250) = false := decide_eq_false c20
         clear c20
         replace H := Option.bind_eq_some_iff.mp H
         obtain ⟨⟨t137, t138, t139, t140⟩, A540, H⟩ := H
         replace H : (if t140 = 0 then (if x27_1 < 2 then (if x27_1 = (Int.tmod t137 2) then (if t138 = 0 then (if t139.toList = ([] : List UInt8) then (store_Boot.l0 k1 l0_0 (l0_0.length : Int) (wrap64 (x27_1 + 1)) l0_0 l0_0 (mx x132001_1 t137) 0 x132003_1 false) else (store_Boot.l0 k1 l0_0 (l0_0.length : Int) (wrap64 (x27_1 + 1)) l0_0 l0_0 x132001_1 0 x132003_1 false)) else (store_Boot.l0 k1 l0_0 (l0_0.length : Int) (wrap64 (x27_1 + 1)) l0_0 l0_0 x132001_1 0 x132003_1 false)) else (store_Boot.l0 k1 l0_0 (l0_0.length : Int) (wrap64 (x27_1 + 1)) l0_0 l0_0 x132001_1 0 x132003_1 false)) else (store_Boot.l0 k1 l0_0 (l0_0.length : Int) (wrap64 (x27_1 + 1)) l0_0 l0_0 x132001_1 0 x132003_1 false)) else (store_Boot.l0 k1 l0_0 (l0_0.length : Int) (wrap64 (x27_1 + 1)) l0_0 l0_0 x132001_1 0 x132003_1 false)) = some (r1, r2, r3, r4, r5, r6, r7) := H
         have A54 := aA A540
         clear A540
         by_cases c55 : t140 = 0
         ·rw [if_pos c55] at H
          have c55b0 : (t140 == 0) = true := beq_iff_eq.mpr c55
          have c55b1 : (t140 != 0) = false := bne_eq_false_iff_eq.mpr c55
          clear c55
          by_cases c56 : x27_1 < 2
          ·rw [if_pos c56] at H
           have c56b0 : decide (x27_1 < 2) = true := decide_eq_true c56
           clear c56
           by_cases c57 : x27_1 = (Int.tmod t137 2)
           ·rw [if_pos c57] at H
            have c57b0 : (x27_1 == (Int.tmod t137 2)) = true := beq_iff_eq.mpr c57
            have c57b1 : (x27_1 != (Int.tmod t137 2)) = false := bne_eq_false_iff_eq.mpr c57
            clear c57
            by_cases c58 : t138 = 0
            ·rw [if_pos c58] at H
             have c58b0 : (t138 == 0) = true := beq_iff_eq.mpr c58
             have c58b1 : (t138 != 0) = false := bne_eq_false_iff_eq.mpr c58
             clear c58
             by_cases c59 : t139.toList = ([] : List UInt8)
             ·rw [if_pos c59] at H
              have c59b0 : (t139.toList == ([] : List UInt8)) = true := beq_iff_eq.mpr c59
              have c59b1 : (t139.toList != ([] : List UInt8)) = false := bne_eq_false_iff_eq.mpr c59
              clear c59
              obtain ⟨ji60, hji60⟩ : ∃ j_ : Int, (mx x132001_1 t137) = j_ := ⟨_, rfl⟩
              replace H : (store_Boot.l0 k1 l0_0 (l0_0.length : Int) (wrap64 (x27_1 + 1)) l0_0 l0_0 ji60 0 x132003_1 false) = some (r1, r2, r3, r4, r5, r6, r7) := by first | (rw [hji60] at H; exact H) | (simp only [hji60] at H ⊢; exact H)
              (try rw [hji60] at A54)
              have hji60_ : (if x132001_1 < t137 then t137 else x132001_1) = ji60 := hji60
              have H' := aA H
              clear H
              have p132 : 0 ≤ (x27_1 : Int) := of_decide_eq_true (by first | (with_reducible assumption) | assumption)
              have q132 : x27_1 < (l0_0.length : Int) := of_decide_eq_true (by first | (with_reducible assumption) | assumption)
              obtain ⟨ad132, e132, hx132_0⟩ := Kd.at_string (Kd.V_reads' HO_25.out).2.2 x27_1 p132 q132
              cases e132
              replace p132 := eq_true p132
              replace q132 := eq_true q132
              have p19 : 0 ≤ (0 : Int) := (by omega)
              have q19 : 0 < (rdOf ByteArray.empty l0_0 x27_1).size := (by have : (0 : Int) < ((rdOf ByteArray.empty l0_0 x27_1).size : Int) := of_decide_eq_true (by first | (with_reducible assumption) | assumption); omega)
              have hx19 : ∀ h : 0 < (rdOf ByteArray.empty l0_0 x27_1).size, (((rdOf ByteArray.empty l0_0 x27_1)[0]'h).toNat : Int) = bt (rdOf ByteArray.empty l0_0 x27_1) 0 := bt_at (rdOf ByteArray.empty l0_0 x27_1) 0
              clear p19
              have qi19 : (0 < ((rdOf ByteArray.empty l0_0 x27_1).size : Int)) = True := eq_true (of_decide_eq_true (by first | (with_reducible assumption) | assumption))
              replace q19 := eq_true q19
              go_wp2_with (first | ((with_reducible refine gate_callee (f := 36) rfl ?_); refine goesL_ (some 44) rfl rfl Try.func36 (by kernel_rfl) rfl #[.string (rdOf ByteArray.empty l0_0 x27_1)] rfl mS ?_; (with_reducible refine (seal_Open.calls (rdOf ByteArray.empty l0_0 x27_1) t137 t138 t139 t140 _ A54.out).mono ?_); rintro e w61 ⟨rfl, hb⟩; refine ⟨_, rfl, ?_⟩; have n0_ := aA (Kd.V_below (by (with_reducible repeat (first | apply Kd.V_alloc | apply Kd.V_drewN | apply Kd.V_drew)); exact HO_25.out) hb); have n1_ := aA (Kd.V_below (by (with_reducible repeat (first | apply Kd.V_alloc | apply Kd.V_drewN | apply Kd.V_drew)); exact HO_129000.out) hb); have n2_ := aA (Kd.V_below (by (with_reducible repeat (first | apply Kd.V_alloc | apply Kd.V_drewN | apply Kd.V_drew)); exact HO_132000.out) hb); have n3_ := aA (bB BK128.out hb); have n4_ := aA (bB BK129.out hb); have n5_ := aA (bB BK131.out hb); have n6_ := aA (below_step (mD3 GE128.out GE129.out GE131.out) hb); clear HO_25 HO_129000 HO_132000 BK128 BK129 BK131 HB; have HO_25 := n0_; have HO_129000 := n1_; have HO_132000 := n2_; have BK128 := n3_; have BK129 := n4_; have BK131 := n5_; have HB := n6_; clear n0_ n1_ n2_ n3_ n4_ n5_ n6_; (try clear hb); (try clear hb2); (try clear hk); (try clear hi); have hnb62 := NB131_128.out; have hnc62 := NB128_131.out; have hnb63 := NB131_129.out; have hnc63 := NB129_131.out; obtain ⟨hcz64_0, hcz64_1, hcz64_2, hcz64_3, hcz64_4⟩ := bC5 BK131.out; obtain ⟨hfz64_0, hfz64_1, hfz64_2, hfz64_3, hfz64_4⟩ := bF5 BK131.out))
              go_roundg k1
              case measure => have := HK1.out; omega
              case rel => exact ⟨(wrap64 (x27_1 + 1)), (ji60), (x132003_1), (by first | rfl | (simp; done) | (simp [*]; done)), H', ⟨by have := HK1.out; omega⟩, ⟨by (with_reducible repeat (first | apply Kd.V_alloc | apply Kd.V_drewN | apply Kd.V_drew)); exact Kd.V_mono (Kd.V_far (p := ⟨gb131, 1, none⟩) (Kd.V_mono HO_25.out (fun k_ hk => (⟨hk, hk.2.2.2⟩ : _ ∧ k_ ≠ gb131))) (fun _ hk => hk.2) (.int .i64 ji60)) (fun _ hk => ⟨hk.1.1, ⟨hk.1.2.1, ⟨hk.1.2.2.1, hk.1.2.2.2⟩⟩⟩)⟩, ⟨by (with_reducible repeat (first | apply Kd.V_alloc | apply Kd.V_drewN | apply Kd.V_drew)); exact Kd.V_mono (Kd.V_far (p := ⟨gb131, 1, none⟩) (Kd.V_mono HO_129000.out (fun k_ hk => (⟨hk, hk.2.2.2⟩ : _ ∧ k_ ≠ gb131))) (fun _ hk => hk.2) (.int .i64 ji60)) (fun _ hk => ⟨hk.1.1, ⟨hk.1.2.1, ⟨hk.1.2.2.1, hk.1.2.2.2⟩⟩⟩)⟩, ⟨by (with_reducible repeat (first | apply Kd.V_alloc | apply Kd.V_drewN | apply Kd.V_drew)); exact Kd.V_mono (Kd.V_far (p := ⟨gb131, 1, none⟩) (Kd.V_mono HO_132000.out (fun k_ hk => (⟨hk, hk.2.2.2⟩ : _ ∧ k_ ≠ gb131))) (fun _ hk => hk.2) (.int .i64 ji60)) (fun _ hk => ⟨hk.1.1, ⟨hk.1.2.1, ⟨hk.1.2.2.1, hk.1.2.2.2⟩⟩⟩)⟩, ⟨by (with_reducible repeat (first | refine blk_drewN ?_ _ | refine blk_drew ?_ | refine blk_alloc ?_ _)); refine blk_far ?_ NB128_131.out _; (with_reducible repeat (first | refine blk_drewN ?_ _ | refine blk_drew ?_ | refine blk_alloc ?_ _)); exact BK128.out⟩, ⟨by (with_reducible repeat (first | refine blk_drewN ?_ _ | refine blk_drew ?_ | refine blk_alloc ?_ _)); refine blk_far ?_ NB129_131.out _; (with_reducible repeat (first | refine blk_drewN ?_ _ | refine blk_drew ?_ | refine blk_alloc ?_ _)); exact BK129.out⟩, ⟨by (with_reducible repeat (first | refine blk_drewN ?_ _ | refine blk_drew ?_ | refine blk_alloc ?_ _)); refine blk_put (cs := #[.slice (some ad132) l0_0.length c0_0, .int .i64 x132001_1, .int .i64 0, .int .i64 x132003_1, .bool false]) ?_ 1 _ rfl; (with_reducible repeat (first | refine blk_drewN ?_ _ | refine blk_drew ?_ | refine blk_alloc ?_ _)); exact BK131.out⟩, ⟨by repeat (first | (with_reducible first | exact HB.out | apply below_alloc | apply pw_below_drewN | apply below_drew1 | refine below_set ?_ GE128.out | refine below_set ?_ GE129.out | refine below_set ?_ GE131.out) | exact HB.out)⟩⟩
             ·rw [if_neg c59] at H
              have c59b0 : (t139.toList == ([] : List UInt8)) = false := beq_eq_false_iff_ne.mpr c59
              have c59b1 : (t139.toList != ([] : List UInt8)) = true := bne_iff_ne.mpr c59
              have H' := aA H
              clear H
              have p132 : 0 ≤ (x27_1 : Int) := of_decide_eq_true (by first | (with_reducible assumption) | assumption)
              have q132 : x27_1 < (l0_0.length : Int) := of_decide_eq_true (by first | (with_reducible assumption) | assumption)
              obtain ⟨ad132, e132, hx132_0⟩ := Kd.at_string (Kd.V_reads' HO_25.out).2.2 x27_1 p132 q132
              cases e132
              replace p132 := eq_true p132
              replace q132 := eq_true q132
              have p19 : 0 ≤ (0 : Int) := (by omega)
              have q19 : 0 < (rdOf ByteArray.empty l0_0 x27_1).size := (by have : (0 : Int) < ((rdOf ByteArray.empty l0_0 x27_1).size : Int) := of_decide_eq_true (by first | (with_reducible assumption) | assumption); omega)
              have hx19 : ∀ h : 0 < (rdOf ByteArray.empty l0_0 x27_1).size, (((rdOf ByteArray.empty l0_0 x27_1)[0]'h).toNat : Int) = bt (rdOf ByteArray.empty l0_0 x27_1) 0 := bt_at (rdOf ByteArray.empty l0_0 x27_1) 0
              clear p19
              have qi19 : (0 < ((rdOf ByteArray.empty l0_0 x27_1).size : Int)) = True := eq_true (of_decide_eq_true (by first | (with_reducible assumption) | assumption))
              replace q19 := eq_true q19
              go_wp2_with (first | ((with_reducible refine gate_callee (f := 36) rfl ?_); refine goesL_ (some 44) rfl rfl Try.func36 (by kernel_rfl) rfl #[.string (rdOf ByteArray.empty l0_0 x27_1)] rfl mS ?_; (with_reducible refine (seal_Open.calls (rdOf ByteArray.empty l0_0 x27_1) t137 t138 t139 t140 _ A54.out).mono ?_); rintro e w65 ⟨rfl, hb⟩; refine ⟨_, rfl, ?_⟩; have n0_ := aA (Kd.V_below (by (with_reducible repeat (first | apply Kd.V_alloc | apply Kd.V_drewN | apply Kd.V_drew)); exact HO_25.out) hb); have n1_ := aA (Kd.V_below (by (with_reducible repeat (first | apply Kd.V_alloc | apply Kd.V_drewN | apply Kd.V_drew)); exact HO_129000.out) hb); have n2_ := aA (Kd.V_below (by (with_reducible repeat (first | apply Kd.V_alloc | apply Kd.V_drewN | apply Kd.V_drew)); exact HO_132000.out) hb); have n3_ := aA (bB BK128.out hb); have n4_ := aA (bB BK129.out hb); have n5_ := aA (bB BK131.out hb); have n6_ := aA (below_step (mD3 GE128.out GE129.out GE131.out) hb); clear HO_25 HO_129000 HO_132000 BK128 BK129 BK131 HB; have HO_25 := n0_; have HO_129000 := n1_; have HO_132000 := n2_; have BK128 := n3_; have BK129 := n4_; have BK131 := n5_; have HB := n6_; clear n0_ n1_ n2_ n3_ n4_ n5_ n6_; (try clear hb); (try clear hb2); (try clear hk); (try clear hi)))
              go_roundg k1
              case measure => have := HK1.out; omega
              case rel => exact ⟨(wrap64 (x27_1 + 1)), (x132001_1), (x132003_1), (by first | rfl | (simp; done) | (simp [*]; done)), H', ⟨by have := HK1.out; omega⟩, ⟨by (with_reducible repeat (first | apply Kd.V_alloc | apply Kd.V_drewN | apply Kd.V_drew)); exact HO_25.out⟩, ⟨by (with_reducible repeat (first | apply Kd.V_alloc | apply Kd.V_drewN | apply Kd.V_drew)); exact HO_129000.out⟩, ⟨by (with_reducible repeat (first | apply Kd.V_alloc | apply Kd.V_drewN | apply Kd.V_drew)); exact HO_132000.out⟩, ⟨by (with_reducible repeat (first | refine blk_drewN ?_ _ | refine blk_drew ?_ | refine blk_alloc ?_ _)); exact BK128.out⟩, ⟨by (with_reducible repeat (first | refine blk_drewN ?_ _ | refine blk_drew ?_ | refine blk_alloc ?_ _)); exact BK129.out⟩, ⟨by (with_reducible repeat (first | refine blk_drewN ?_ _ | refine blk_drew ?_ | refine blk_alloc ?_ _)); exact BK131.out⟩, ⟨by repeat (first | (with_reducible first | exact HB.out | apply below_alloc | apply pw_below_drewN | apply below_drew1 | refine below_set ?_ GE128.out | refine below_set ?_ GE129.out | refine below_set ?_ GE131.out) | exact HB.out)⟩⟩
            ·rw [if_neg c58] at H
             have c58b0 : (t138 == 0) = false := beq_eq_false_iff_ne.mpr c58
             have c58b1 : (t138 != 0) = true := bne_iff_ne.mpr c58
             have H' := aA H
             clear H
             have p132 : 0 ≤ (x27_1 : Int) := of_decide_eq_true (by first | (with_reducible assumption) | assumption)
             have q132 : x27_1 < (l0_0.length : Int) := of_decide_eq_true (by first | (with_reducible assumption) | assumption)
             obtain ⟨ad132, e132, hx132_0⟩ := Kd.at_string (Kd.V_reads' HO_25.out).2.2 x27_1 p132 q132
             cases e132
             replace p132 := eq_true p132
             replace q132 := eq_true q132
             have p19 : 0 ≤ (0 : Int) := (by omega)
             have q19 : 0 < (rdOf ByteArray.empty l0_0 x27_1).size := (by have : (0 : Int) < ((rdOf ByteArray.empty l0_0 x27_1).size : Int) := of_decide_eq_true (by first | (with_reducible assumption) | assumption); omega)
             have hx19 : ∀ h : 0 < (rdOf ByteArray.empty l0_0 x27_1).size, (((rdOf ByteArray.empty l0_0 x27_1)[0]'h).toNat : Int) = bt (rdOf ByteArray.empty l0_0 x27_1) 0 := bt_at (rdOf ByteArray.empty l0_0 x27_1) 0
             clear p19
             have qi19 : (0 < ((rdOf ByteArray.empty l0_0 x27_1).size : Int)) = True := eq_true (of_decide_eq_true (by first | (with_reducible assumption) | assumption))
             replace q19 := eq_true q19
             go_wp2_with (first | ((with_reducible refine gate_callee (f := 36) rfl ?_); refine goesL_ (some 44) rfl rfl Try.func36 (by kernel_rfl) rfl #[.string (rdOf ByteArray.empty l0_0 x27_1)] rfl mS ?_; (with_reducible refine (seal_Open.calls (rdOf ByteArray.empty l0_0 x27_1) t137 t138 t139 t140 _ A54.out).mono ?_); rintro e w66 ⟨rfl, hb⟩; refine ⟨_, rfl, ?_⟩; have n0_ := aA (Kd.V_below (by (with_reducible repeat (first | apply Kd.V_alloc | apply Kd.V_drewN | apply Kd.V_drew)); exact HO_25.out) hb); have n1_ := aA (Kd.V_below (by (with_reducible repeat (first | apply Kd.V_alloc | apply Kd.V_drewN | apply Kd.V_drew)); exact HO_129000.out) hb); have n2_ := aA (Kd.V_below (by (with_reducible repeat (first | apply Kd.V_alloc | apply Kd.V_drewN | apply Kd.V_drew)); exact HO_132000.out) hb); have n3_ := aA (bB BK128.out hb); have n4_ := aA (bB BK129.out hb); have n5_ := aA (bB BK131.out hb); have n6_ := aA (below_step (mD3 GE128.out GE129.out GE131.out) hb); clear HO_25 HO_129000 HO_132000 BK128 BK129 BK131 HB; have HO_25 := n0_; have HO_129000 := n1_; have HO_132000 := n2_; have BK128 := n3_; have BK129 := n4_; have BK131 := n5_; have HB := n6_; clear n0_ n1_ n2_ n3_ n4_ n5_ n6_; (try clear hb); (try clear hb2); (try clear hk); (try clear hi)))
             go_roundg k1
             case measure => have := HK1.out; omega
             case rel => exact ⟨(wrap64 (x27_1 + 1)), (x132001_1), (x132003_1), (by first | rfl | (simp; done) | (simp [*]; done)), H', ⟨by have := HK1.out; omega⟩, ⟨by (with_reducible repeat (first | apply Kd.V_alloc | apply Kd.V_drewN | apply Kd.V_drew)); exact HO_25.out⟩, ⟨by (with_reducible repeat (first | apply Kd.V_alloc | apply Kd.V_drewN | apply Kd.V_drew)); exact HO_129000.out⟩, ⟨by (with_reducible repeat (first | apply Kd.V_alloc | apply Kd.V_drewN | apply Kd.V_drew)); exact HO_132000.out⟩, ⟨by (with_reducible repeat (first | refine blk_drewN ?_ _ | refine blk_drew ?_ | refine blk_alloc ?_ _)); exact BK128.out⟩, ⟨by (with_reducible repeat (first | refine blk_drewN ?_ _ | refine blk_drew ?_ | refine blk_alloc ?_ _)); exact BK129.out⟩, ⟨by (with_reducible repeat (first | refine blk_drewN ?_ _ | refine blk_drew ?_ | refine blk_alloc ?_ _)); exact BK131.out⟩, ⟨by repeat (first | (with_reducible first | exact HB.out | apply below_alloc | apply pw_below_drewN | apply below_drew1 | refine below_set ?_ GE128.out | refine below_set ?_ GE129.out | refine below_set ?_ GE131.out) | exact HB.out)⟩⟩
           ·rw [if_neg c57] at H
            have c57b0 : (x27_1 == (Int.tmod t137 2)) = false := beq_eq_false_iff_ne.mpr c57
            have c57b1 : (x27_1 != (Int.tmod t137 2)) = true := bne_iff_ne.mpr c57
            have H' := aA H
            clear H
            have p132 : 0 ≤ (x27_1 : Int) := of_decide_eq_true (by first | (with_reducible assumption) | assumption)
            have q132 : x27_1 < (l0_0.length : Int) := of_decide_eq_true (by first | (with_reducible assumption) | assumption)
            obtain ⟨ad132, e132, hx132_0⟩ := Kd.at_string (Kd.V_reads' HO_25.out).2.2 x27_1 p132 q132
            cases e132
            replace p132 := eq_true p132
            replace q132 := eq_true q132
            have p19 : 0 ≤ (0 : Int) := (by omega)
            have q19 : 0 < (rdOf ByteArray.empty l0_0 x27_1).size := (by have : (0 : Int) < ((rdOf ByteArray.empty l0_0 x27_1).size : Int) := of_decide_eq_true (by first | (with_reducible assumption) | assumption); omega)
            have hx19 : ∀ h : 0 < (rdOf ByteArray.empty l0_0 x27_1).size, (((rdOf ByteArray.empty l0_0 x27_1)[0]'h).toNat : Int) = bt (rdOf ByteArray.empty l0_0 x27_1) 0 := bt_at (rdOf ByteArray.empty l0_0 x27_1) 0
            clear p19
            have qi19 : (0 < ((rdOf ByteArray.empty l0_0 x27_1).size : Int)) = True := eq_true (of_decide_eq_true (by first | (with_reducible assumption) | assumption))
            replace q19 := eq_true q19
            go_wp2_with (first | ((with_reducible refine gate_callee (f := 36) rfl ?_); refine goesL_ (some 44) rfl rfl Try.func36 (by kernel_rfl) rfl #[.string (rdOf ByteArray.empty l0_0 x27_1)] rfl mS ?_; (with_reducible refine (seal_Open.calls (rdOf ByteArray.empty l0_0 x27_1) t137 t138 t139 t140 _ A54.out).mono ?_); rintro e w67 ⟨rfl, hb⟩; refine ⟨_, rfl, ?_⟩; have n0_ := aA (Kd.V_below (by (with_reducible repeat (first | apply Kd.V_alloc | apply Kd.V_drewN | apply Kd.V_drew)); exact HO_25.out) hb); have n1_ := aA (Kd.V_below (by (with_reducible repeat (first | apply Kd.V_alloc | apply Kd.V_drewN | apply Kd.V_drew)); exact HO_129000.out) hb); have n2_ := aA (Kd.V_below (by (with_reducible repeat (first | apply Kd.V_alloc | apply Kd.V_drewN | apply Kd.V_drew)); exact HO_132000.out) hb); have n3_ := aA (bB BK128.out hb); have n4_ := aA (bB BK129.out hb); have n5_ := aA (bB BK131.out hb); have n6_ := aA (below_step (mD3 GE128.out GE129.out GE131.out) hb); clear HO_25 HO_129000 HO_132000 BK128 BK129 BK131 HB; have HO_25 := n0_; have HO_129000 := n1_; have HO_132000 := n2_; have BK128 := n3_; have BK129 := n4_; have BK131 := n5_; have HB := n6_; clear n0_ n1_ n2_ n3_ n4_ n5_ n6_; (try clear hb); (try clear hb2); (try clear hk); (try clear hi)))
            go_roundg k1
            case measure => have := HK1.out; omega
            case rel => exact ⟨(wrap64 (x27_1 + 1)), (x132001_1), (x132003_1), (by first | rfl | (simp; done) | (simp [*]; done)), H', ⟨by have := HK1.out; omega⟩, ⟨by (with_reducible repeat (first | apply Kd.V_alloc | apply Kd.V_drewN | apply Kd.V_drew)); exact HO_25.out⟩, ⟨by (with_reducible repeat (first | apply Kd.V_alloc | apply Kd.V_drewN | apply Kd.V_drew)); exact HO_129000.out⟩, ⟨by (with_reducible repeat (first | apply Kd.V_alloc | apply Kd.V_drewN | apply Kd.V_drew)); exact HO_132000.out⟩, ⟨by (with_reducible repeat (first | refine blk_drewN ?_ _ | refine blk_drew ?_ | refine blk_alloc ?_ _)); exact BK128.out⟩, ⟨by (with_reducible repeat (first | refine blk_drewN ?_ _ | refine blk_drew ?_ | refine blk_alloc ?_ _)); exact BK129.out⟩, ⟨by (with_reducible repeat (first | refine blk_drewN ?_ _ | refine blk_drew ?_ | refine blk_alloc ?_ _)); exact BK131.out⟩, ⟨by repeat (first | (with_reducible first | exact HB.out | apply below_alloc | apply pw_below_drewN | apply below_drew1 | refine below_set ?_ GE128.out | refine below_set ?_ GE129.out | refine below_set ?_ GE131.out) | exact HB.out)⟩⟩
          ·rw [if_neg c56] at H
           have c56b0 : decide (x27_1 < 2) = false := decide_eq_false c56
           clear c56
           have H' := aA H
           clear H
           have p132 : 0 ≤ (x27_1 : Int) := of_decide_eq_true (by first | (with_reducible assumption) | assumption)
           have q132 : x27_1 < (l0_0.length : Int) := of_decide_eq_true (by first | (with_reducible assumption) | assumption)
           obtain ⟨ad132, e132, hx132_0⟩ := Kd.at_string (Kd.V_reads' HO_25.out).2.2 x27_1 p132 q132
           cases e132
           replace p132 := eq_true p132
           replace q132 := eq_true q132
           have p19 : 0 ≤ (0 : Int) := (by omega)
           have q19 : 0 < (rdOf ByteArray.empty l0_0 x27_1).size := (by have : (0 : Int) < ((rdOf ByteArray.empty l0_0 x27_1).size : Int) := of_decide_eq_true (by first | (with_reducible assumption) | assumption); omega)
           have hx19 : ∀ h : 0 < (rdOf ByteArray.empty l0_0 x27_1).size, (((rdOf ByteArray.empty l0_0 x27_1)[0]'h).toNat : Int) = bt (rdOf ByteArray.empty l0_0 x27_1) 0 := bt_at (rdOf ByteArray.empty l0_0 x27_1) 0
           clear p19
           have qi19 : (0 < ((rdOf ByteArray.empty l0_0 x27_1).size : Int)) = True := eq_true (of_decide_eq_true (by first | (with_reducible assumption) | assumption))
           replace q19 := eq_true q19
           go_wp2_with (first | ((with_reducible refine gate_callee (f := 36) rfl ?_); refine goesL_ (some 44) rfl rfl Try.func36 (by kernel_rfl) rfl #[.string (rdOf ByteArray.empty l0_0 x27_1)] rfl mS ?_; (with_reducible refine (seal_Open.calls (rdOf ByteArray.empty l0_0 x27_1) t137 t138 t139 t140 _ A54.out).mono ?_); rintro e w68 ⟨rfl, hb⟩; refine ⟨_, rfl, ?_⟩; have n0_ := aA (Kd.V_below (by (with_reducible repeat (first | apply Kd.V_alloc | apply Kd.V_drewN | apply Kd.V_drew)); exact HO_25.out) hb); have n1_ := aA (Kd.V_below (by (with_reducible repeat (first | apply Kd.V_alloc | apply Kd.V_drewN | apply Kd.V_drew)); exact HO_129000.out) hb); have n2_ := aA (Kd.V_below (by (with_reducible repeat (first | apply Kd.V_alloc | apply Kd.V_drewN | apply Kd.V_drew)); exact HO_132000.out) hb); have n3_ := aA (bB BK128.out hb); have n4_ := aA (bB BK129.out hb); have n5_ := aA (bB BK131.out hb); have n6_ := aA (below_step (mD3 GE128.out GE129.out GE131.out) hb); clear HO_25 HO_129000 HO_132000 BK128 BK129 BK131 HB; have HO_25 := n0_; have HO_129000 := n1_; have HO_132000 := n2_; have BK128 := n3_; have BK129 := n4_; have BK131 := n5_; have HB := n6_; clear n0_ n1_ n2_ n3_ n4_ n5_ n6_; (try clear hb); (try clear hb2); (try clear hk); (try clear hi)))
           go_roundg k1
           case measure => have := HK1.out; omega
           case rel => exact ⟨(wrap64 (x27_1 + 1)), (x132001_1), (x132003_1), (by first | rfl | (simp; done) | (simp [*]; done)), H', ⟨by have := HK1.out; omega⟩, ⟨by (with_reducible repeat (first | apply Kd.V_alloc | apply Kd.V_drewN | apply Kd.V_drew)); exact HO_25.out⟩, ⟨by (with_reducible repeat (first | apply Kd.V_alloc | apply Kd.V_drewN | apply Kd.V_drew)); exact HO_129000.out⟩, ⟨by (with_reducible repeat (first | apply Kd.V_alloc | apply Kd.V_drewN | apply Kd.V_drew)); exact HO_132000.out⟩, ⟨by (with_reducible repeat (first | refine blk_drewN ?_ _ | refine blk_drew ?_ | refine blk_alloc ?_ _)); exact BK128.out⟩, ⟨by (with_reducible repeat (first | refine blk_drewN ?_ _ | refine blk_drew ?_ | refine blk_alloc ?_ _)); exact BK129.out⟩, ⟨by (with_reducible repeat (first | refine blk_drewN ?_ _ | refine blk_drew ?_ | refine blk_alloc ?_ _)); exact BK131.out⟩, ⟨by repeat (first | (with_reducible first | exact HB.out | apply below_alloc | apply pw_below_drewN | apply below_drew1 | refine below_set ?_ GE128.out | refine below_set ?_ GE129.out | refine below_set ?_ GE131.out) | exact HB.out)⟩⟩
         ·rw [if_neg c55] at H
          have c55b0 : (t140 == 0) = false := beq_eq_false_iff_ne.mpr c55
          have c55b1 : (t140 != 0) = true := bne_iff_ne.mpr c55
          have H' := aA H
          clear H
          have p132 : 0 ≤ (x27_1 : Int) := of_decide_eq_true (by first | (with_reducible assumption) | assumption)
          have q132 : x27_1 < (l0_0.length : Int) := of_decide_eq_true (by first | (with_reducible assumption) | assumption)
          obtain ⟨ad132, e132, hx132_0⟩ := Kd.at_string (Kd.V_reads' HO_25.out).2.2 x27_1 p132 q132
          cases e132
          replace p132 := eq_true p132
          replace q132 := eq_true q132
          have p19 : 0 ≤ (0 : Int) := (by omega)
          have q19 : 0 < (rdOf ByteArray.empty l0_0 x27_1).size := (by have : (0 : Int) < ((rdOf ByteArray.empty l0_0 x27_1).size : Int) := of_decide_eq_true (by first | (with_reducible assumption) | assumption); omega)
          have hx19 : ∀ h : 0 < (rdOf ByteArray.empty l0_0 x27_1).size, (((rdOf ByteArray.empty l0_0 x27_1)[0]'h).toNat : Int) = bt (rdOf ByteArray.empty l0_0 x27_1) 0 := bt_at (rdOf ByteArray.empty l0_0 x27_1) 0
          clear p19
          have qi19 : (0 < ((rdOf ByteArray.empty l0_0 x27_1).size : Int)) = True := eq_true (of_decide_eq_true (by first | (with_reducible assumption) | assumption))
          replace q19 := eq_true q19
          go_wp2_with (first | ((with_reducible refine gate_callee (f := 36) rfl ?_); refine goesL_ (some 44) rfl rfl Try.func36 (by kernel_rfl) rfl #[.string (rdOf ByteArray.empty l0_0 x27_1)] rfl mS ?_; (with_reducible refine (seal_Open.calls (rdOf ByteArray.empty l0_0 x27_1) t137 t138 t139 t140 _ A54.out).mono ?_); rintro e w69 ⟨rfl, hb⟩; refine ⟨_, rfl, ?_⟩; have n0_ := aA (Kd.V_below (by (with_reducible repeat (first | apply Kd.V_alloc | apply Kd.V_drewN | apply Kd.V_drew)); exact HO_25.out) hb); have n1_ := aA (Kd.V_below (by (with_reducible repeat (first | apply Kd.V_alloc | apply Kd.V_drewN | apply Kd.V_drew)); exact HO_129000.out) hb); have n2_ := aA (Kd.V_below (by (with_reducible repeat (first | apply Kd.V_alloc | apply Kd.V_drewN | apply Kd.V_drew)); exact HO_132000.out) hb); have n3_ := aA (bB BK128.out hb); have n4_ := aA (bB BK129.out hb); have n5_ := aA (bB BK131.out hb); have n6_ := aA (below_step (mD3 GE128.out GE129.out GE131.out) hb); clear HO_25 HO_129000 HO_132000 BK128 BK129 BK131 HB; have HO_25 := n0_; have HO_129000 := n1_; have HO_132000 := n2_; have BK128 := n3_; have BK129 := n4_; have BK131 := n5_; have HB := n6_; clear n0_ n1_ n2_ n3_ n4_ n5_ n6_; (try clear hb); (try clear hb2); (try clear hk); (try clear hi)))
          go_roundg k1
          case measure => have := HK1.out; omega
          case rel => exact ⟨(wrap64 (x27_1 + 1)), (x132001_1), (x132003_1), (by first | rfl | (simp; done) | (simp [*]; done)), H', ⟨by have := HK1.out; omega⟩, ⟨by (with_reducible repeat (first | apply Kd.V_alloc | apply Kd.V_drewN | apply Kd.V_drew)); exact HO_25.out⟩, ⟨by (with_reducible repeat (first | apply Kd.V_alloc | apply Kd.V_drewN | apply Kd.V_drew)); exact HO_129000.out⟩, ⟨by (with_reducible repeat (first | apply Kd.V_alloc | apply Kd.V_drewN | apply Kd.V_drew)); exact HO_132000.out⟩, ⟨by (with_reducible repeat (first | refine blk_drewN ?_ _ | refine blk_drew ?_ | refine blk_alloc ?_ _)); exact BK128.out⟩, ⟨by (with_reducible repeat (first | refine blk_drewN ?_ _ | refine blk_drew ?_ | refine blk_alloc ?_ _)); exact BK129.out⟩, ⟨by (with_reducible repeat (first | refine blk_drewN ?_ _ | refine blk_drew ?_ | refine blk_alloc ?_ _)); exact BK131.out⟩, ⟨by repeat (first | (with_reducible first | exact HB.out | apply below_alloc | apply pw_below_drewN | apply below_drew1 | refine below_set ?_ GE128.out | refine below_set ?_ GE129.out | refine below_set ?_ GE131.out) | exact HB.out)⟩⟩
       ·rw [if_neg c18] at H
        exact absurd H (by simp)
      ·rw [if_neg c17] at H
       exact absurd H (by simp)
     ·rw [if_neg c16] at H
      exact absurd H (by simp)
    ·rw [if_neg c15] at H
     have c15b0 : decide (x27_1 < (l0_0.length : Int)) = false := decide_eq_false c15
     clear c15
     by_cases c70 : x132001_1 = 0
     ·rw [if_pos c70] at H
      have c70b0 : (x132001_1 == 0) = true := beq_iff_eq.mpr c70
      have c70b1 : (x132001_1 != 0) = false := bne_eq_false_iff_eq.mpr c70
      clear c70
      simp only [Option.some.injEq, Prod.mk.injEq] at H
      obtain ⟨rfl, rfl, rfl, rfl, rfl, rfl, rfl⟩ := H
      have hnb71 := NB131_128.out
      have hnc71 := NB128_131.out
      have hnb72 := NB131_129.out
      have hnc72 := NB129_131.out
      obtain ⟨hcz73_0, hcz73_1, hcz73_2, hcz73_3, hcz73_4⟩ := bC5 BK131.out
      obtain ⟨hfz73_0, hfz73_1, hfz73_2, hfz73_3, hfz73_4⟩ := bF5 BK131.out
      have hnb74 := NB129_128.out
      have hnc74 := NB128_129.out
      obtain ⟨hcz75_0, hcz75_1, hcz75_2, hcz75_3, hcz75_4⟩ := bC5 BK129.out
      obtain ⟨hfz75_0, hfz75_1, hfz75_2, hfz75_3, hfz75_4⟩ := bF5 BK129.out
      go_wp2
      refine bodyPost_ret (results_ctt rfl _ _ gb129 26 #[.slice none 0 0, .int .i64 0, .int .i64 0, .int .i64 0, .bool false] (0, 0) _ rfl (by (with_reducible repeat (first | refine blk_drewN ?_ _ | refine blk_drew ?_ | refine blk_alloc ?_ _)); have h_ := BK129.out; exact pK 4 (pK 3 (pK 2 (pK 1 (pK 0 (h_)))))) Try.underlying26 rfl (by kernel_rfl)) rfl ?_
      exact ⟨_, _, by first | rfl | (simp [errW_none, errW_some] <;> rfl) | (simp [*, errW_none, errW_some] <;> rfl), Kd.V_nil _ _ _ _ _, by first | exact Kd.R_nil _ _ _ _ _ | exact Kd.N_nil _ _ _ _ _ | exact Kd.V_nil _ _ _ _ _ | exact Kd.Q_nil _ _ _ _ _ | exact Kd.S_nil _ _ _ _ _, by repeat (first | (with_reducible first | exact HB.out | apply below_alloc | apply pw_below_drewN | apply below_drew1 | refine below_set ?_ GE128.out | refine below_set ?_ GE129.out | refine below_set ?_ GE131.out) | exact HB.out)⟩
     ·rw [if_neg c70] at H
      have c70b0 : (x132001_1 == 0) = false := beq_eq_false_iff_ne.mpr c70
      have c70b1 : (x132001_1 != 0) = true := bne_iff_ne.mpr c70
      have H' := aA H
      clear H
      have hnb76 := NB131_128.out
      have hnc76 := NB128_131.out
      have hnb77 := NB131_129.out
      have hnc77 := NB129_131.out
      obtain ⟨hcz78_0, hcz78_1, hcz78_2, hcz78_3, hcz78_4⟩ := bC5 BK131.out
      obtain ⟨hfz78_0, hfz78_1, hfz78_2, hfz78_3, hfz78_4⟩ := bF5 BK131.out
      go_wp2
      go_loopg [13] k1 (fun kq v13 w' => ∃ (x13_2 : List ByteArray) (x132002_2 : Int), Aside0 (store_Boot.l1 kq x13_2 l0_0 l0_0 x132001_1 x132002_2 x132003_1 false = some (r1, r2, r3, r4, r5, r6, r7)) ∧ Aside0 (kq ≤ k1) ∧ Aside0 (Kd.R Kd.string 9 w' w.heap.size (fun k_ => (w.heap.size ≤ k_)) v13 x13_2) ∧ Aside0 (Kd.V Kd.string 9 w' w.heap.size (fun k_ => (P0_0_ k_ ∨ w.heap.size ≤ k_) ∧ some k_ ≠ (v13 : Value).ownBlock ∧ k_ ≠ gb128 ∧ k_ ≠ gb129 ∧ k_ ≠ gb131) (.slice A0_0 l0_0.length c0_0) l0_0) ∧ Aside0 (Kd.V Kd.string 9 w' w.heap.size (fun k_ => (P0_0_ k_ ∨ w.heap.size ≤ k_) ∧ some k_ ≠ (v13 : Value).ownBlock ∧ k_ ≠ gb128 ∧ k_ ≠ gb129 ∧ k_ ≠ gb131) (.slice A0_0 l0_0.length c0_0) l0_0) ∧ Aside0 (w'.heap[gb128]? = some (.cells #[(.slice A0_0 l0_0.length c0_0)] 24 (0, 0))) ∧ Aside0 (w'.heap[gb129]? = some (.cells #[(.slice none 0 0), .int .i64 0, .int .i64 0, .int .i64 0, .bool false] 26 (0, 0))) ∧ Aside0 (w'.heap[gb131]? = some (.cells #[(.slice A0_0 l0_0.length c0_0), .int .i64 x132001_1, .int .i64 x132002_2, .int .i64 x132003_1, .bool false] 26 (0, 0))) ∧ Aside0 (Below w.heap.size w w'))
      case atStart => exact ⟨(([] : List ByteArray)), (0), H', ⟨Nat.le_refl _⟩, ⟨by first | exact Kd.R_nil _ _ _ _ _ | exact Kd.N_nil _ _ _ _ _ | exact Kd.V_nil _ _ _ _ _ | exact Kd.Q_nil _ _ _ _ _ | exact Kd.S_nil _ _ _ _ _⟩, ⟨by (with_reducible repeat (first | apply Kd.V_alloc | apply Kd.V_drewN | apply Kd.V_drew)); exact Kd.V_mono HO_129000.out (fun _ hk => ⟨hk.1, ⟨(by simp [Value.ownBlock]), ⟨hk.2.1, ⟨hk.2.2.1, hk.2.2.2⟩⟩⟩⟩)⟩, ⟨by (with_reducible repeat (first | apply Kd.V_alloc | apply Kd.V_drewN | apply Kd.V_drew)); exact Kd.V_mono HO_132000.out (fun _ hk => ⟨hk.1, ⟨(by simp [Value.ownBlock]), ⟨hk.2.1, ⟨hk.2.2.1, hk.2.2.2⟩⟩⟩⟩)⟩, ⟨by (with_reducible repeat (first | refine blk_drewN ?_ _ | refine blk_drew ?_ | refine blk_alloc ?_ _)); exact BK128.out⟩, ⟨by (with_reducible repeat (first | refine blk_drewN ?_ _ | refine blk_drew ?_ | refine blk_alloc ?_ _)); exact BK129.out⟩, ⟨by (with_reducible repeat (first | refine blk_drewN ?_ _ | refine blk_drew ?_ | refine blk_alloc ?_ _)); exact BK131.out⟩, ⟨by repeat (first | (with_reducible first | exact HB.out | apply below_alloc | apply pw_below_drewN | apply below_drew1 | refine below_set ?_ GE128.out | refine below_set ?_ GE129.out | refine below_set ?_ GE131.out) | exact HB.out)⟩⟩
      case round =>
       clear H'
       try clear c1
       try clear p1
       try clear q1
       try clear hx1
       try clear qi1
       try clear c2
       try clear p2
       try clear c3
       try clear c4
       try clear c5
       try clear c6
       try clear p6
       try clear c7
       try clear c11
       try clear c12
       try clear p13
       try clear q13
       try clear hx13
       try clear c15
       try clear c15b0
       try clear c16
       try clear c16b0
       try clear c17
       try clear c17b0
       try clear c18
       try clear c18b0
       try clear c18b1
       try clear p19
       try clear q19
       try clear hx19
       try clear qi19
       try clear c20
       try clear c20b0
       try clear c23
       try clear c23b0
       try clear c23b1
       try clear c24
       try clear c24b0
       try clear c25
       try clear c25b0
       try clear c25b1
       try clear c26
       try clear c26b0
       try clear c26b1
       try clear c27
       try clear c27b0
       try clear c27b1
       try clear c29
       try clear c30
       try clear c34
       try clear c35
       try clear c36
       try clear c38
       try clear c39
       try clear c42
       try clear c43
       try clear c46
       try clear c47
       try clear c50
       try clear c51
       try clear c55
       try clear c55b0
       try clear c55b1
       try clear c56
       try clear c56b0
       try clear c57
       try clear c57b0
       try clear c57b1
       try clear c58
       try clear c58b0
       try clear c58b1
       try clear c59
       try clear c59b0
       try clear c59b1
       try clear c62
       try clear c63
       try clear p64
       try clear c70
       try clear c70b0
       try clear c70b1
       try clear c71
       try clear c72
       try clear c74
       try clear c76
       try clear c77
       try clear hcz13_0 hcz13_1 hcz13_2 hcz13_3 hcz13_4
       try clear hcz14_0
       try clear hcz31_0 hcz31_1 hcz31_2 hcz31_3 hcz31_4
       try clear hcz33_0 hcz33_1 hcz33_2 hcz33_3 hcz33_4
       try clear hcz36_0 hcz36_1 hcz36_2 hcz36_3 hcz36_4
       try clear hcz40_0 hcz40_1 hcz40_2 hcz40_3 hcz40_4
       try clear hcz44_0 hcz44_1 hcz44_2 hcz44_3 hcz44_4
       try clear hcz48_0 hcz48_1 hcz48_2 hcz48_3 hcz48_4
       try clear hcz52_0 hcz52_1 hcz52_2 hcz52_3 hcz52_4
       try clear hcz64_0 hcz64_1 hcz64_2 hcz64_3 hcz64_4
       try clear hcz73_0 hcz73_1 hcz73_2 hcz73_3 hcz73_4
       try clear hcz75_0 hcz75_1 hcz75_2 hcz75_3 hcz75_4
       try clear hcz78_0 hcz78_1 hcz78_2 hcz78_3 hcz78_4
       try clear hcz7_0
       try clear hcz9_0
       try clear hfz13_0 hfz13_1 hfz13_2 hfz13_3 hfz13_4
       try clear hfz14_0
       try clear hfz31_0 hfz31_1 hfz31_2 hfz31_3 hfz31_4
       try clear hfz33_0 hfz33_1 hfz33_2 hfz33_3 hfz33_4
       try clear hfz36_0 hfz36_1 hfz36_2 hfz36_3 hfz36_4
       try clear hfz40_0 hfz40_1 hfz40_2 hfz40_3 hfz40_4
       try clear hfz44_0 hfz44_1 hfz44_2 hfz44_3 hfz44_4
       try clear hfz48_0 hfz48_1 hfz48_2 hfz48_3 hfz48_4
       try clear hfz52_0 hfz52_1 hfz52_2 hfz52_3 hfz52_4
       try clear hfz64_0 hfz64_1 hfz64_2 hfz64_3 hfz64_4
       try clear hfz73_0 hfz73_1 hfz73_2 hfz73_3 hfz73_4
       try clear hfz75_0 hfz75_1 hfz75_2 hfz75_3 hfz75_4
       try clear hfz78_0 hfz78_1 hfz78_2 hfz78_3 hfz78_4
       try clear hfz7_0
       try clear hfz9_0
       try clear hx132_0
       try clear p132
       try clear p19
       try clear p2
       try clear q132
       try clear q19
       obtain ⟨x13_2, x132002_2, HA, HK2, HO_13, HO_129000, HO_132000, BK128, BK129, BK131, HB⟩ := hrel
       cases gk with
       | zero => exact absurd HA.out (by simp [store_Boot.l1])
       | succ k2 =>
        have H := HA.out
        clear HA
        simp only [store_Boot.l1] at H
        replace H := Option.bind_eq_some_iff.mp H
        obtain ⟨t141, A790, H⟩ := H
        replace H : (if x132002_2 < t141 then ((store_place.f l0_0 x132001_1 x132002_2).bind fun t142 => (if 0 ≤ t142 then (if t142 < (l0_0.length : Int) then ((seal_Open.f (rdOf ByteArray.empty l0_0 t142)).bind fun bt144 => (if bt144.2.2.2 = 0 then (if bt144.1 = x132001_1 then (if bt144.2.1 = (wrap64 (x132002_2 + 1)) then (if x13_2.length < 8796093022208 then (store_Boot.l1 k2 (x13_2 ++ [bt144.2.2.1]) l0_0 l0_0 x132001_1 (wrap64 (x132002_2 + 1)) x132003_1 false) else (none)) else (some (l0_0, x132001_1, x132002_2, x132003_1, false, x13_2, 0))) else (some (l0_0, x132001_1, x132002_2, x132003_1, false, x13_2, 0))) else (some (l0_0, x132001_1, x132002_2, x132003_1, false, x13_2, 0)))) else (none)) else (none))) else (some (l0_0, x132001_1, x132002_2, x132003_1, false, x13_2, 0))) = some (r1, r2, r3, r4, r5, r6, r7) := H
        have A79 := aA A790
        clear A790
        by_cases c80 : x132002_2 < t141
        ·rw [if_pos c80] at H
         have c80b0 : decide (x132002_2 < t141) = true := decide_eq_true c80
         clear c80
         replace H := Option.bind_eq_some_iff.mp H
         obtain ⟨t142, A810, H⟩ := H
         replace H : (if 0 ≤ t142 then (if t142 < (l0_0.length : Int) then ((seal_Open.f (rdOf ByteArray.empty l0_0 t142)).bind fun bt144 => (if bt144.2.2.2 = 0 then (if bt144.1 = x132001_1 then (if bt144.2.1 = (wrap64 (x132002_2 + 1)) then (if x13_2.length < 8796093022208 then (store_Boot.l1 k2 (x13_2 ++ [bt144.2.2.1]) l0_0 l0_0 x132001_1 (wrap64 (x132002_2 + 1)) x132003_1 false) else (none)) else (some (l0_0, x132001_1, x132002_2, x132003_1, false, x13_2, 0))) else (some (l0_0, x132001_1, x132002_2, x132003_1, false, x13_2, 0))) else (some (l0_0, x132001_1, x132002_2, x132003_1, false, x13_2, 0)))) else (none)) else (none)) = some (r1, r2, r3, r4, r5, r6, r7) := H
         have A81 := aA A810
         clear A810
         by_cases c82 : 0 ≤ t142
         ·rw [if_pos c82] at H
          have c82b0 : decide (0 ≤ t142) = true := decide_eq_true c82
          clear c82
          by_cases c83 : t142 < (l0_0.length : Int)
          ·rw [if_pos c83] at H
           have c83b0 : decide (t142 < (l0_0.length : Int)) = true := decide_eq_true c83
           clear c83
           replace H := Option.bind_eq_some_iff.mp H
           obtain ⟨⟨t144, t145, t146, t147⟩, A840, H⟩ := H
           replace H : (if t147 = 0 then (if t144 = x132001_1 then (if t145 = (wrap64 (x132002_2 + 1)) then (if x13_2.length < 8796093022208 then (store_Boot.l1 k2 (x13_2 ++ [t146]) l0_0 l0_0 x132001_1 (wrap64 (x132002_2 + 1)) x132003_1 false) else (none)) else (some (l0_0, x132001_1, x132002_2, x132003_1, false, x13_2, 0))) else (some (l0_0, x132001_1, x132002_2, x132003_1, false, x13_2, 0))) else (some (l0_0, x132001_1, x132002_2, x132003_1, false, x13_2, 0))) = some (r1, r2, r3, r4, r5, r6, r7) := H
           have A84 := aA A840
           clear A840
           by_cases c85 : t147 = 0
           ·rw [if_pos c85] at H
            have c85b0 : (t147 == 0) = true := beq_iff_eq.mpr c85
            have c85b1 : (t147 != 0) = false := bne_eq_false_iff_eq.mpr c85
            clear c85
            by_cases c86 : t144 = x132001_1
            ·rw [if_pos c86] at H
             have c86b0 : (t144 == x132001_1) = true := beq_iff_eq.mpr c86
             have c86b1 : (t144 != x132001_1) = false := bne_eq_false_iff_eq.mpr c86
             clear c86
             by_cases c87 : t145 = (wrap64 (x132002_2 + 1))
             ·rw [if_pos c87] at H
              have c87b0 : (t145 == (wrap64 (x132002_2 + 1))) = true := beq_iff_eq.mpr c87
              have c87b1 : (t145 != (wrap64 (x132002_2 + 1))) = false := bne_eq_false_iff_eq.mpr c87
              clear c87
              by_cases c88 : x13_2.length < 8796093022208
              ·rw [if_pos c88] at H
               have LMc88 := aA c88
               clear c88
               obtain ⟨y148, hy148⟩ : ∃ y_ : List ByteArray, y_ = (x13_2 ++ [t146]) := ⟨_, rfl⟩
               replace H : (store_Boot.l1 k2 y148 l0_0 l0_0 x132001_1 (wrap64 (x132002_2 + 1)) x132003_1 false) = some (r1, r2, r3, r4, r5, r6, r7) := by first | (rw [hy148]; with_reducible exact H) | (have H2_ := (Option.bind_some _ _).symm.trans H; rw [hy148]; with_reducible exact H2_) | (have H2_ := (Option.bind_some _ _).symm.trans H; with_reducible exact H2_) | with_reducible exact H | (rw [hy148]; exact H) | exact H
               have Ny148 := aA hy148
               clear hy148
               have H' := aA H
               clear H
               try go_wp2
               have n0_ := aA (Kd.R_drew HO_13.out)
               have n1_ := aA (Kd.V_drew HO_129000.out)
               have n2_ := aA (Kd.V_drew HO_132000.out)
               have n3_ := aA (blk_drew BK128.out)
               have n4_ := aA (blk_drew BK129.out)
               have n5_ := aA (blk_drew BK131.out)
               have n6_ := aA (below_drew1 HB.out)
               clear HO_13
               clear HO_129000
               clear HO_132000
               clear BK128
               clear BK129
               clear BK131
               clear HB
               have HO_13 := n0_
               have HO_129000 := n1_
               have HO_132000 := n2_
               have BK128 := n3_
               have BK129 := n4_
               have BK131 := n5_
               have HB := n6_
               clear n0_ n1_ n2_ n3_ n4_ n5_ n6_
               refine start_ (n := 5) (S := fun w' => w'.cell? ⟨gb131, 0, none⟩ = some (.slice A0_0 l0_0.length c0_0) ∧ w'.cell? ⟨gb131, 1, none⟩ = some (.int .i64 x132001_1) ∧ w'.cell? ⟨gb131, 2, none⟩ = some (.int .i64 x132002_2) ∧ w'.cell? ⟨gb131, 3, none⟩ = some (.int .i64 x132003_1) ∧ w'.cell? ⟨gb131, 4, none⟩ = some (.bool false) ∧ w'.cell? ⟨gb128, 0, none⟩ = some (.slice A0_0 l0_0.length c0_0)) (ds := []) #[false, false, false, false, false] (by kernel_rfl) rfl rfl ⟨(blk_cell BK131.out 0).trans rfl, (blk_cell BK131.out 1).trans rfl, (blk_cell BK131.out 2).trans rfl, (blk_cell BK131.out 3).trans rfl, (blk_cell BK131.out 4).trans rfl, (blk_cell BK128.out 0).trans rfl⟩ (fun hHeld => ?_)
               generalize wr.drew = w89 at HO_13 HO_129000 HO_132000 BK128 BK129 BK131 HB hHeld ⊢
               refine pure_ (i := 0) (N := some 79) (v := ?_) (a' := ?_) #[true, false, false, false, false] rfl rfl (by kernel_rfl) (fun _ _ _ h => h) (Or.inl ⟨by rfl, ?_⟩) ?_ ?_
               rotate_left
               ·intro w'
                go_simp
                with_reducible rfl
               rotate_left
               ·exact mP
               refine take_ (i := 1) (N := some 80) (v := ?_) (a' := ?_) #[true, true, false, false, false] rfl rfl (by kernel_rfl) (fun _ _ _ h => h) (Or.inl ⟨by rfl, ?_⟩) hHeld ?_ ?_
               rotate_left
               ·rintro w' ⟨s0, s1, s2, s3, s4, s5⟩
                go_simp
                with_reducible rfl
               rotate_left
               ·exact mP
               refine take_ (i := 2) (N := some 81) (v := ?_) (a' := ?_) #[true, true, true, false, false] rfl rfl (by kernel_rfl) (fun _ _ _ h => h) (Or.inl ⟨by rfl, ?_⟩) hHeld ?_ ?_
               rotate_left
               ·rintro w' ⟨s0, s1, s2, s3, s4, s5⟩
                go_simp
                with_reducible rfl
               rotate_left
               ·exact mP
               refine one_ (i := 3) (N := some 82) #[true, true, true, true, false] rfl rfl (by kernel_rfl) (by decide) (fun K hK => ?_)
               refine goes_ Try.func37 (by kernel_rfl) rfl #[.agg #[.slice A0_0 l0_0.length c0_0]] (by rfl) rfl rfl mS ?_
               with_reducible refine (store_area.calls _ _ l0_0 t141 _ ?side1 ?side2 A79.out).mono ?_
               (case side1 => exact mC ((Kd.V_reads' HO_129000.out).2.2))
               (case side2 => exact (Kd.V_reads' HO_129000.out).2.1)
               rintro e w90 ⟨rfl, hb⟩
               refine ⟨_, rfl, ?_⟩
               have n0_ := aA (Kd.R_below (mR HO_13.out) hb)
               have n1_ := aA (Kd.V_below (by (with_reducible repeat (first | apply Kd.V_alloc | apply Kd.V_drewN | apply Kd.V_drew)); exact HO_129000.out) hb)
               have n2_ := aA (Kd.V_below (by (with_reducible repeat (first | apply Kd.V_alloc | apply Kd.V_drewN | apply Kd.V_drew)); exact HO_132000.out) hb)
               have n3_ := aA (bB BK128.out hb)
               have n4_ := aA (bB BK129.out hb)
               have n5_ := aA (bB BK131.out hb)
               have n6_ := aA (below_step (mD3 GE128.out GE129.out GE131.out) hb)
               clear HO_13
               clear HO_129000
               clear HO_132000
               clear BK128
               clear BK129
               clear BK131
               clear HB
               have HO_13 := n0_
               have HO_129000 := n1_
               have HO_132000 := n2_
               have BK128 := n3_
               have BK129 := n4_
               have BK131 := n5_
               have HB := n6_
               clear n0_ n1_ n2_ n3_ n4_ n5_ n6_
               (try clear hb)
               (try clear hb2)
               (try clear hk)
               (try clear hi)
               refine hK.out _ _ ⟨(blk_cell BK131.out 0).trans rfl, (blk_cell BK131.out 1).trans rfl, (blk_cell BK131.out 2).trans rfl, (blk_cell BK131.out 3).trans rfl, (blk_cell BK131.out 4).trans rfl, (blk_cell BK128.out 0).trans rfl⟩ (fun hHeld => ?_)
               clear hK K
               refine norm_ (a' := ?_) ?_ ?_
               rotate_left
               ·show Act.put _ (some 82) _ = _
                simp only [Act.put, List.setIfInBounds_toArray, List.set_cons_zero, List.set_cons_succ, i64_w, i32_w]
                rfl
               refine pure_ (i := 4) (N := some 83) (v := ?_) (a' := ?_) #[true, true, true, true, true] rfl rfl (by kernel_rfl) (fun _ _ _ h => h) (Or.inl ⟨by rfl, ?_⟩) ?_ ?_
               rotate_left
               ·intro w'
                go_simp
                with_reducible rfl
               rotate_left
               ·exact mP
               refine done_ (by kernel_rfl) ?_
               try go_wp2
               have n0_ := aA (Kd.R_drew HO_13.out)
               have n1_ := aA (Kd.V_drew HO_129000.out)
               have n2_ := aA (Kd.V_drew HO_132000.out)
               have n3_ := aA (blk_drew BK128.out)
               have n4_ := aA (blk_drew BK129.out)
               have n5_ := aA (blk_drew BK131.out)
               have n6_ := aA (below_drew1 HB.out)
               clear HO_13
               clear HO_129000
               clear HO_132000
               clear BK128
               clear BK129
               clear BK131
               clear HB
               have HO_13 := n0_
               have HO_129000 := n1_
               have HO_132000 := n2_
               have BK128 := n3_
               have BK129 := n4_
               have BK131 := n5_
               have HB := n6_
               clear n0_ n1_ n2_ n3_ n4_ n5_ n6_
               have p143 : 0 ≤ (t142 : Int) := of_decide_eq_true (by first | (with_reducible assumption) | assumption)
               have q143 : t142 < (l0_0.length : Int) := of_decide_eq_true (by first | (with_reducible assumption) | assumption)
               obtain ⟨ad143, e143, hx143_0⟩ := Kd.at_string (Kd.V_reads' HO_129000.out).2.2 t142 p143 q143
               cases e143
               replace p143 := eq_true p143
               replace q143 := eq_true q143
               refine start_ (n := 20) (S := fun w' => w'.cell? ⟨gb128, 0, none⟩ = some (.slice (some ad143) l0_0.length c0_0) ∧ w'.cell? ⟨gb131, 0, none⟩ = some (.slice (some ad143) l0_0.length c0_0) ∧ w'.cell? ⟨gb131, 1, none⟩ = some (.int .i64 x132001_1) ∧ w'.cell? ⟨gb131, 2, none⟩ = some (.int .i64 x132002_2) ∧ w'.cell? ⟨gb131, 3, none⟩ = some (.int .i64 x132003_1) ∧ w'.cell? ⟨gb131, 4, none⟩ = some (.bool false) ∧ w'.cell? (ad143.add (t142).toNat) = some (.string (rdOf ByteArray.empty l0_0 t142))) (ds := []) (bA 20 0) (by kernel_rfl) rfl rfl ⟨(blk_cell BK128.out 0).trans rfl, (blk_cell BK131.out 0).trans rfl, (blk_cell BK131.out 1).trans rfl, (blk_cell BK131.out 2).trans rfl, (blk_cell BK131.out 3).trans rfl, (blk_cell BK131.out 4).trans rfl, hx143_0⟩ (fun hHeld => ?_); refine with_tabW store_Boot.tab18 store_Boot.bits18 (fun HT_ HW_ => ?_)
               generalize w90.drew = w91 at HO_13 HO_129000 HO_132000 BK128 BK129 BK131 HB hx143_0 hHeld ⊢
               refine pure_ (i := 0) (N := some 85) (v := ?_) (a' := ?_) (bA 20 1) rfl rfl (any_of HT_.out (by kernel_rfl)) (fun _ _ _ h => h) (Or.inl ⟨by rfl, ?_⟩) ?_ ?_
               rotate_left
               ·intro w'
                go_simp
                with_reducible rfl
               rotate_left
               ·exact mP
               refine pure_ (i := 3) (N := some 88) (v := ?_) (a' := ?_) (bA 20 9) rfl rfl (any_of HT_.out (by kernel_rfl)) (fun _ _ _ h => h) (Or.inl ⟨by rfl, ?_⟩) ?_ ?_
               rotate_left
               ·intro w'
                go_simp
                with_reducible rfl
               rotate_left
               ·exact mP
               refine pure_ (i := 5) (N := some 90) (v := ?_) (a' := ?_) (bA 20 41) rfl rfl (any_of HT_.out (by kernel_rfl)) (fun _ _ _ h => h) (Or.inl ⟨by rfl, ?_⟩) ?_ ?_
               rotate_left
               ·intro w'
                go_simp
                with_reducible rfl
               rotate_left
               ·exact mP
               refine take_ (i := 1) (N := some 86) (v := ?_) (a' := ?_) (bA 20 43) rfl rfl (take_ofW HT_.out HW_.out (by kernel_rfl)) (fun _ _ _ h => h) (Or.inl ⟨by rfl, ?_⟩) hHeld ?_ ?_
               rotate_left
               ·rintro w' ⟨s0, s1, s2, s3, s4, s5, s6⟩
                go_simp
                with_reducible rfl
               rotate_left
               ·exact mP
               refine take_ (i := 2) (N := some 87) (v := ?_) (a' := ?_) (bA 20 47) rfl rfl (take_ofW HT_.out HW_.out (by kernel_rfl)) (fun _ _ _ h => h) (Or.inl ⟨by rfl, ?_⟩) hHeld ?_ ?_
               rotate_left
               ·rintro w' ⟨s0, s1, s2, s3, s4, s5, s6⟩
                go_simp
                with_reducible rfl
               rotate_left
               ·exact mP
               refine take_ (i := 4) (N := some 89) (v := ?_) (a' := ?_) (bA 20 63) rfl rfl (take_ofW HT_.out HW_.out (by kernel_rfl)) (fun _ _ _ h => h) (Or.inl ⟨by rfl, ?_⟩) hHeld ?_ ?_
               rotate_left
               ·rintro w' ⟨s0, s1, s2, s3, s4, s5, s6⟩
                go_simp
                with_reducible rfl
               rotate_left
               ·exact mP
               refine take_ (i := 6) (N := some 91) (v := ?_) (a' := ?_) (bA 20 127) rfl rfl (take_ofW HT_.out HW_.out (by kernel_rfl)) (fun _ _ _ h => h) (Or.inl ⟨by rfl, ?_⟩) hHeld ?_ ?_
               rotate_left
               ·rintro w' ⟨s0, s1, s2, s3, s4, s5, s6⟩
                go_simp
                with_reducible rfl
               rotate_left
               ·exact mP
               refine one_ (i := 7) (N := some 92) (bA 20 255) rfl rfl (one_of HT_.out (by kernel_rfl)) (by decide) (fun K hK => ?_)
               refine goes_ Try.func38 (by kernel_rfl) rfl #[.agg #[.slice (some ad143) l0_0.length c0_0], .int .i64 x132001_1, .int .i64 x132002_2] (by rfl) rfl rfl mS ?_
               with_reducible refine (store_place.calls _ _ l0_0 x132001_1 x132002_2 t142 _ ?side1 ?side2 A81.out).mono ?_
               (case side1 => exact mC ((Kd.V_reads' HO_129000.out).2.2))
               (case side2 => exact (Kd.V_reads' HO_129000.out).2.1)
               rintro e w92 ⟨rfl, hb⟩
               have HS6_ := (hb.cell (World.block_lt_of_cell? _ _ (hHeld.2.2.2.2.2.2))).trans (hHeld.2.2.2.2.2.2)
               refine ⟨_, rfl, ?_⟩
               have n0_ := aA (Kd.R_below (mR HO_13.out) hb)
               have n1_ := aA (Kd.V_below (by (with_reducible repeat (first | apply Kd.V_alloc | apply Kd.V_drewN | apply Kd.V_drew)); exact HO_129000.out) hb)
               have n2_ := aA (Kd.V_below (by (with_reducible repeat (first | apply Kd.V_alloc | apply Kd.V_drewN | apply Kd.V_drew)); exact HO_132000.out) hb)
               have n3_ := aA (bB BK128.out hb)
               have n4_ := aA (bB BK129.out hb)
               have n5_ := aA (bB BK131.out hb)
               have n6_ := aA (below_step (mD3 GE128.out GE129.out GE131.out) hb)
               clear HO_13
               clear HO_129000
               clear HO_132000
               clear BK128
               clear BK129
               clear BK131
               clear HB
               have HO_13 := n0_
               have HO_129000 := n1_
               have HO_132000 := n2_
               have BK128 := n3_
               have BK129 := n4_
               have BK131 := n5_
               have HB := n6_
               clear n0_ n1_ n2_ n3_ n4_ n5_ n6_
               (try clear hb)
               (try clear hb2)
               (try clear hk)
               (try clear hi)
               refine hK.out _ _ ⟨(blk_cell BK128.out 0).trans rfl, (blk_cell BK131.out 0).trans rfl, (blk_cell BK131.out 1).trans rfl, (blk_cell BK131.out 2).trans rfl, (blk_cell BK131.out 3).trans rfl, (blk_cell BK131.out 4).trans rfl, HS6_⟩ (fun hHeld => ?_)
               clear hK K
               refine norm_ (a' := ?_) ?_ ?_
               rotate_left
               ·show Act.put _ (some 92) _ = _
                simp only [Act.put, List.setIfInBounds_toArray, List.set_cons_zero, List.set_cons_succ, i64_w, i32_w]
                rfl
               refine pure_ (i := 8) (N := some 93) (v := ?_) (a' := ?_) (bA 20 511) rfl rfl (any_of HT_.out (by kernel_rfl)) (fun _ _ _ h => h) (Or.inl ⟨by rfl, ?_⟩) ?_ ?_
               rotate_left
               ·intro w'
                go_simp
                with_reducible rfl
               rotate_left
               ·exact mP
               refine take_ (i := 9) (N := some 94) (v := ?_) (a' := ?_) (bA 20 1023) rfl rfl (take_ofW HT_.out HW_.out (by kernel_rfl)) (fun _ _ _ h => h) (Or.inl ⟨by rfl, ?_⟩) hHeld ?_ ?_
               rotate_left
               ·rintro w' ⟨s0, s1, s2, s3, s4, s5, s6⟩
                go_simp
                with_reducible rfl
               rotate_left
               ·exact mP
               refine one_ (i := 10) (N := some 95) (bA 20 2047) rfl rfl (one_of HT_.out (by kernel_rfl)) (by decide) (fun K hK => ?_)
               refine goes_ Try.func36 (by kernel_rfl) rfl #[.string (rdOf ByteArray.empty l0_0 t142)] (by rfl) rfl rfl mS ?_
               with_reducible refine (seal_Open.calls (rdOf ByteArray.empty l0_0 t142) t144 t145 t146 t147 _ A84.out).mono ?_
               rintro e w93 ⟨rfl, hb⟩
               have HS6_ := (hb.cell (World.block_lt_of_cell? _ _ (hHeld.2.2.2.2.2.2))).trans (hHeld.2.2.2.2.2.2)
               refine ⟨_, rfl, ?_⟩
               have n0_ := aA (Kd.R_below (mR HO_13.out) hb)
               have n1_ := aA (Kd.V_below (by (with_reducible repeat (first | apply Kd.V_alloc | apply Kd.V_drewN | apply Kd.V_drew)); exact HO_129000.out) hb)
               have n2_ := aA (Kd.V_below (by (with_reducible repeat (first | apply Kd.V_alloc | apply Kd.V_drewN | apply Kd.V_drew)); exact HO_132000.out) hb)
               have n3_ := aA (bB BK128.out hb)
               have n4_ := aA (bB BK129.out hb)
               have n5_ := aA (bB BK131.out hb)
               have n6_ := aA (below_step (mD3 GE128.out GE129.out GE131.out) hb)
               clear HO_13
               clear HO_129000
               clear HO_132000
               clear BK128
               clear BK129
               clear BK131
               clear HB
               have HO_13 := n0_
               have HO_129000 := n1_
               have HO_132000 := n2_
               have BK128 := n3_
               have BK129 := n4_
               have BK131 := n5_
               have HB := n6_
               clear n0_ n1_ n2_ n3_ n4_ n5_ n6_
               (try clear hb)
               (try clear hb2)
               (try clear hk)
               (try clear hi)
               refine hK.out _ _ ⟨(blk_cell BK128.out 0).trans rfl, (blk_cell BK131.out 0).trans rfl, (blk_cell BK131.out 1).trans rfl, (blk_cell BK131.out 2).trans rfl, (blk_cell BK131.out 3).trans rfl, (blk_cell BK131.out 4).trans rfl, HS6_⟩ (fun hHeld => ?_)
               clear hK K
               refine norm_ (a' := ?_) ?_ ?_
               rotate_left
               ·show Act.put _ (some 95) _ = _
                simp only [Act.put, List.setIfInBounds_toArray, List.set_cons_zero, List.set_cons_succ, i64_w, i32_w]
                rfl
               refine pure_ (i := 11) (N := some 84) (v := ?_) (a' := ?_) (bA 20 4095) rfl rfl (any_of HT_.out (by kernel_rfl)) (fun _ _ _ h => h) (Or.inl ⟨by rfl, ?_⟩) ?_ ?_
               rotate_left
               ·intro w'
                go_simp
                with_reducible rfl
               rotate_left
               ·exact mP
               refine pure_ (i := 12) (N := some 96) (v := ?_) (a' := ?_) (bA 20 8191) rfl rfl (any_of HT_.out (by kernel_rfl)) (fun _ _ _ h => h) (Or.inl ⟨by rfl, ?_⟩) ?_ ?_
               rotate_left
               ·intro w'
                go_simp
                with_reducible rfl
               rotate_left
               ·exact mP
               refine pure_ (i := 13) (N := some 97) (v := ?_) (a' := ?_) (bA 20 16383) rfl rfl (any_of HT_.out (by kernel_rfl)) (fun _ _ _ h => h) (Or.inl ⟨by rfl, ?_⟩) ?_ ?_
               rotate_left
               ·intro w'
                go_simp
                with_reducible rfl
               rotate_left
               ·exact mP
               refine pure_ (i := 14) (N := some 98) (v := ?_) (a' := ?_) (bA 20 32767) rfl rfl (any_of HT_.out (by kernel_rfl)) (fun _ _ _ h => h) (Or.inl ⟨by rfl, ?_⟩) ?_ ?_
               rotate_left
               ·intro w'
                go_simp
                with_reducible rfl
               rotate_left
               ·exact mP
               refine pure_ (i := 15) (N := some 99) (v := ?_) (a' := ?_) (bA 20 65535) rfl rfl (any_of HT_.out (by kernel_rfl)) (fun _ _ _ h => h) (Or.inl ⟨by rfl, ?_⟩) ?_ ?_
               rotate_left
               ·intro w'
                go_simp
                with_reducible rfl
               rotate_left
               ·exact mP
               refine pure_ (i := 16) (N := some 14) (v := ?_) (a' := ?_) (bA 20 131071) rfl rfl (any_of HT_.out (by kernel_rfl)) (fun _ _ _ h => h) (Or.inl ⟨by rfl, ?_⟩) ?_ ?_
               rotate_left
               ·intro w'
                go_simp
                with_reducible rfl
               rotate_left
               ·exact mP
               refine pure_ (i := 17) (N := some 15) (v := ?_) (a' := ?_) (bA 20 262143) rfl rfl (any_of HT_.out (by kernel_rfl)) (fun _ _ _ h => h) (Or.inl ⟨by rfl, ?_⟩) ?_ ?_
               rotate_left
               ·intro w'
                go_simp
                with_reducible rfl
               rotate_left
               ·exact mP
               refine pure_ (i := 18) (N := some 16) (v := ?_) (a' := ?_) (bA 20 524287) rfl rfl (any_of HT_.out (by kernel_rfl)) (fun _ _ _ h => h) (Or.inl ⟨by rfl, ?_⟩) ?_ ?_
               rotate_left
               ·intro w'
                go_simp
                with_reducible rfl
               rotate_left
               ·exact mP
               refine pure_ (i := 19) (N := some 17) (v := ?_) (a' := ?_) (bA 20 1048575) rfl rfl (any_of HT_.out (by kernel_rfl)) (fun _ _ _ h => h) (Or.inl ⟨by rfl, ?_⟩) ?_ ?_
               rotate_left
               ·intro w'
                go_simp
                with_reducible rfl
               rotate_left
               ·exact mP
               refine done_ (done_of HT_.out (by kernel_rfl)) ?_
               have hnb94 := NB131_128.out
               have hnc94 := NB128_131.out
               have hnb95 := NB131_129.out
               have hnc95 := NB129_131.out
               obtain ⟨hcz96_0, hcz96_1, hcz96_2, hcz96_3, hcz96_4⟩ := bC5 BK131.out
               obtain ⟨hfz96_0, hfz96_1, hfz96_2, hfz96_3, hfz96_4⟩ := bF5 BK131.out
               try go_wp2_with (first | ((with_reducible refine gate_builtin (b := .append) (xs := #[.tmp 115, .tmp 117]) rfl ?_); at_builtin; refine Kd.R_append Kd.string (w0 := w) w.heap.size rfl (.tmp 115) (.tmp 117) 22 9 (.string ⟨#[]⟩) 16 rfl Try.underlying22 info9 rfl (by decide) (by omega) u13 x13_2 t146 [.string t146] (fun k_ => (w.heap.size ≤ k_)) (fun _ => False) rfl rfl ?aP (fun _ hk => hk.elim) ?aF ?aO ?aB ?aS ?aL ?_; (case aP => exact rfl); (case aB => exact (mD3 GE128.out GE129.out GE131.out)); (case aF => exact (fun k_ hk => (Nat.le_trans (below_size (mD3 GE128.out GE129.out GE131.out)) hk))); (case aO => exact (mR HO_13.out)); (case aS => exact (below_size (mD3 GE128.out GE129.out GE131.out))); (case aL => have := LMc88.out; omega); intro v149 w97 ho hb hg hat; rw [← Ny148.out] at ho; have n0_ := aA (Kd.V_afterv (ok := (fun k_ => (P0_0_ k_ ∨ w.heap.size ≤ k_) ∧ k_ ≠ gb128 ∧ k_ ≠ gb129 ∧ k_ ≠ gb131)) (by (with_reducible repeat (first | apply Kd.V_alloc | apply Kd.V_drewN | apply Kd.V_drew)); exact Kd.V_mono HO_129000.out (fun _ hk => ⟨⟨hk.1, ⟨hk.2.2.1, ⟨hk.2.2.2.1, hk.2.2.2.2⟩⟩⟩, hk.2.1⟩)) hg hat); have n1_ := aA (Kd.V_afterv (ok := (fun k_ => (P0_0_ k_ ∨ w.heap.size ≤ k_) ∧ k_ ≠ gb128 ∧ k_ ≠ gb129 ∧ k_ ≠ gb131)) (by (with_reducible repeat (first | apply Kd.V_alloc | apply Kd.V_drewN | apply Kd.V_drew)); exact Kd.V_mono HO_132000.out (fun _ hk => ⟨⟨hk.1, ⟨hk.2.2.1, ⟨hk.2.2.2.1, hk.2.2.2.2⟩⟩⟩, hk.2.1⟩)) hg hat); have n2_ := aA (blk_grown (g := gb128) (o := .cells #[.slice (some ad143) l0_0.length c0_0] 24 (0, 0)) (mK BK128.out) hg (Kd.R_ne HO_13.out BK128.out (by decide))); have n3_ := aA (blk_grown (g := gb129) (o := .cells #[.slice none 0 0, .int .i64 0, .int .i64 0, .int .i64 0, .bool false] 26 (0, 0)) (mK BK129.out) hg (Kd.R_ne HO_13.out BK129.out (by decide))); have n4_ := aA (blk_grown (g := gb131) (o := .cells #[.slice (some ad143) l0_0.length c0_0, .int .i64 x132001_1, .int .i64 x132002_2, .int .i64 x132003_1, .bool false] 26 (0, 0)) (mK BK131.out) hg (Kd.R_ne HO_13.out BK131.out (by decide))); have n5_ := aA (hb); have n6_ := aA (ho); clear HO_129000 HO_132000 BK128 BK129 BK131 HB HO_13; have HO_129000 := n0_; have HO_132000 := n1_; have BK128 := n2_; have BK129 := n3_; have BK131 := n4_; have HB := n5_; have HO150 := n6_; clear n0_ n1_ n2_ n3_ n4_ n5_ n6_ ho hb hg hat; obtain ⟨hcz98_0, hcz98_1, hcz98_2, hcz98_3, hcz98_4⟩ := bC5 BK131.out; obtain ⟨hfz98_0, hfz98_1, hfz98_2, hfz98_3, hfz98_4⟩ := bF5 BK131.out))
               go_roundg k2
               case measure => have := HK1.out; have := HK2.out; omega
               case rel => exact ⟨(y148), (wrap64 (x132002_2 + 1)), H', ⟨by have := HK1.out; have := HK2.out; omega⟩, ⟨by (with_reducible repeat (first | apply Kd.R_alloc | apply Kd.R_drewN | apply Kd.R_drew)); exact Kd.R_mono (rF 2 (Kd.R_types HO150.out BK131.out (by decide))) (fun _ hk => hk.1)⟩, ⟨by (with_reducible repeat (first | apply Kd.V_alloc | apply Kd.V_drewN | apply Kd.V_drew)); exact Kd.V_mono (Kd.V_far (p := ⟨gb131, 2, none⟩) (Kd.V_mono HO_129000.out (fun k_ hk => (⟨hk, hk.1.2.2.2⟩ : _ ∧ k_ ≠ gb131))) (fun _ hk => hk.2) (.int .i64 (wrap64 (x132002_2 + 1)))) (fun _ hk => ⟨hk.1.1.1, ⟨hk.1.2, ⟨hk.1.1.2.1, ⟨hk.1.1.2.2.1, hk.1.1.2.2.2⟩⟩⟩⟩)⟩, ⟨by (with_reducible repeat (first | apply Kd.V_alloc | apply Kd.V_drewN | apply Kd.V_drew)); exact Kd.V_mono (Kd.V_far (p := ⟨gb131, 2, none⟩) (Kd.V_mono HO_132000.out (fun k_ hk => (⟨hk, hk.1.2.2.2⟩ : _ ∧ k_ ≠ gb131))) (fun _ hk => hk.2) (.int .i64 (wrap64 (x132002_2 + 1)))) (fun _ hk => ⟨hk.1.1.1, ⟨hk.1.2, ⟨hk.1.1.2.1, ⟨hk.1.1.2.2.1, hk.1.1.2.2.2⟩⟩⟩⟩)⟩, ⟨by (with_reducible repeat (first | refine blk_drewN ?_ _ | refine blk_drew ?_ | refine blk_alloc ?_ _)); refine blk_far ?_ NB128_131.out _; (with_reducible repeat (first | refine blk_drewN ?_ _ | refine blk_drew ?_ | refine blk_alloc ?_ _)); exact BK128.out⟩, ⟨by (with_reducible repeat (first | refine blk_drewN ?_ _ | refine blk_drew ?_ | refine blk_alloc ?_ _)); refine blk_far ?_ NB129_131.out _; (with_reducible repeat (first | refine blk_drewN ?_ _ | refine blk_drew ?_ | refine blk_alloc ?_ _)); exact BK129.out⟩, ⟨by (with_reducible repeat (first | refine blk_drewN ?_ _ | refine blk_drew ?_ | refine blk_alloc ?_ _)); refine blk_put (cs := #[.slice (some ad143) l0_0.length c0_0, .int .i64 x132001_1, .int .i64 x132002_2, .int .i64 x132003_1, .bool false]) ?_ 2 _ rfl; (with_reducible repeat (first | refine blk_drewN ?_ _ | refine blk_drew ?_ | refine blk_alloc ?_ _)); exact BK131.out⟩, ⟨by repeat (first | (with_reducible first | exact HB.out | apply below_alloc | apply pw_below_drewN | apply below_drew1 | refine below_set ?_ GE128.out | refine below_set ?_ GE129.out | refine below_set ?_ GE131.out) | exact HB.out)⟩⟩
              ·rw [if_neg c88] at H
               exact absurd H (by simp)
             ·rw [if_neg c87] at H
              have c87b0 : (t145 == (wrap64 (x132002_2 + 1))) = false := beq_eq_false_iff_ne.mpr c87
              have c87b1 : (t145 != (wrap64 (x132002_2 + 1))) = true := bne_iff_ne.mpr c87
              simp only [Option.some.injEq, Prod.mk.injEq] at H
              obtain ⟨rfl, rfl, rfl, rfl, rfl, rfl, rfl⟩ := H
              try go_wp2
              have n0_ := aA (Kd.R_drew HO_13.out)
              have n1_ := aA (Kd.V_drew HO_129000.out)
              have n2_ := aA (Kd.V_drew HO_132000.out)
              have n3_ := aA (blk_drew BK128.out)
              have n4_ := aA (blk_drew BK129.out)
              have n5_ := aA (blk_drew BK131.out)
              have n6_ := aA (below_drew1 HB.out)
              clear HO_13
              clear HO_129000
              clear HO_132000
              clear BK128
              clear BK129
              clear BK131
              clear HB
              have HO_13 := n0_
              have HO_129000 := n1_
              have HO_132000 := n2_
              have BK128 := n3_
              have BK129 := n4_
              have BK131 := n5_
              have HB := n6_
              clear n0_ n1_ n2_ n3_ n4_ n5_ n6_
              refine start_ (n := 5) (S := fun w' => w'.cell? ⟨gb131, 0, none⟩ = some (.slice A0_0 l0_0.length c0_0) ∧ w'.cell? ⟨gb131, 1, none⟩ = some (.int .i64 x132001_1) ∧ w'.cell? ⟨gb131, 2, none⟩ = some (.int .i64 x132002_2) ∧ w'.cell? ⟨gb131, 3, none⟩ = some (.int .i64 x132003_1) ∧ w'.cell? ⟨gb131, 4, none⟩ = some (.bool false) ∧ w'.cell? ⟨gb128, 0, none⟩ = some (.slice A0_0 l0_0.length c0_0)) (ds := []) #[false, false, false, false, false] (by kernel_rfl) rfl rfl ⟨(blk_cell BK131.out 0).trans rfl, (blk_cell BK131.out 1).trans rfl, (blk_cell BK131.out 2).trans rfl, (blk_cell BK131.out 3).trans rfl, (blk_cell BK131.out 4).trans rfl, (blk_cell BK128.out 0).trans rfl⟩ (fun hHeld => ?_)
              generalize wr.drew = w99 at HO_13 HO_129000 HO_132000 BK128 BK129 BK131 HB hHeld ⊢
              refine pure_ (i := 0) (N := some 79) (v := ?_) (a' := ?_) #[true, false, false, false, false] rfl rfl (by kernel_rfl) (fun _ _ _ h => h) (Or.inl ⟨by rfl, ?_⟩) ?_ ?_
              rotate_left
              ·intro w'
               go_simp
               with_reducible rfl
              rotate_left
              ·exact mP
              refine take_ (i := 1) (N := some 80) (v := ?_) (a' := ?_) #[true, true, false, false, false] rfl rfl (by kernel_rfl) (fun _ _ _ h => h) (Or.inl ⟨by rfl, ?_⟩) hHeld ?_ ?_
              rotate_left
              ·rintro w' ⟨s0, s1, s2, s3, s4, s5⟩
               go_simp
               with_reducible rfl
              rotate_left
              ·exact mP
              refine take_ (i := 2) (N := some 81) (v := ?_) (a' := ?_) #[true, true, true, false, false] rfl rfl (by kernel_rfl) (fun _ _ _ h => h) (Or.inl ⟨by rfl, ?_⟩) hHeld ?_ ?_
              rotate_left
              ·rintro w' ⟨s0, s1, s2, s3, s4, s5⟩
               go_simp
               with_reducible rfl
              rotate_left
              ·exact mP
              refine one_ (i := 3) (N := some 82) #[true, true, true, true, false] rfl rfl (by kernel_rfl) (by decide) (fun K hK => ?_)
              refine goes_ Try.func37 (by kernel_rfl) rfl #[.agg #[.slice A0_0 l0_0.length c0_0]] (by rfl) rfl rfl mS ?_
              with_reducible refine (store_area.calls _ _ l0_0 t141 _ ?side1 ?side2 A79.out).mono ?_
              (case side1 => exact mC ((Kd.V_reads' HO_129000.out).2.2))
              (case side2 => exact (Kd.V_reads' HO_129000.out).2.1)
              rintro e w100 ⟨rfl, hb⟩
              refine ⟨_, rfl, ?_⟩
              have n0_ := aA (Kd.R_below (mR HO_13.out) hb)
              have n1_ := aA (Kd.V_below (by (with_reducible repeat (first | apply Kd.V_alloc | apply Kd.V_drewN | apply Kd.V_drew)); exact HO_129000.out) hb)
              have n2_ := aA (Kd.V_below (by (with_reducible repeat (first | apply Kd.V_alloc | apply Kd.V_drewN | apply Kd.V_drew)); exact HO_132000.out) hb)
              have n3_ := aA (bB BK128.out hb)
              have n4_ := aA (bB BK129.out hb)
              have n5_ := aA (bB BK131.out hb)
              have n6_ := aA (below_step (mD3 GE128.out GE129.out GE131.out) hb)
              clear HO_13
              clear HO_129000
              clear HO_132000
              clear BK128
              clear BK129
              clear BK131
              clear HB
              have HO_13 := n0_
              have HO_129000 := n1_
              have HO_132000 := n2_
              have BK128 := n3_
              have BK129 := n4_
              have BK131 := n5_
              have HB := n6_
              clear n0_ n1_ n2_ n3_ n4_ n5_ n6_
              (try clear hb)
              (try clear hb2)
              (try clear hk)
              (try clear hi)
              refine hK.out _ _ ⟨(blk_cell BK131.out 0).trans rfl, (blk_cell BK131.out 1).trans rfl, (blk_cell BK131.out 2).trans rfl, (blk_cell BK131.out 3).trans rfl, (blk_cell BK131.out 4).trans rfl, (blk_cell BK128.out 0).trans rfl⟩ (fun hHeld => ?_)
              clear hK K
              refine norm_ (a' := ?_) ?_ ?_
              rotate_left
              ·show Act.put _ (some 82) _ = _
               simp only [Act.put, List.setIfInBounds_toArray, List.set_cons_zero, List.set_cons_succ, i64_w, i32_w]
               rfl
              refine pure_ (i := 4) (N := some 83) (v := ?_) (a' := ?_) #[true, true, true, true, true] rfl rfl (by kernel_rfl) (fun _ _ _ h => h) (Or.inl ⟨by rfl, ?_⟩) ?_ ?_
              rotate_left
              ·intro w'
               go_simp
               with_reducible rfl
              rotate_left
              ·exact mP
              refine done_ (by kernel_rfl) ?_
              try go_wp2
              have n0_ := aA (Kd.R_drew HO_13.out)
              have n1_ := aA (Kd.V_drew HO_129000.out)
              have n2_ := aA (Kd.V_drew HO_132000.out)
              have n3_ := aA (blk_drew BK128.out)
              have n4_ := aA (blk_drew BK129.out)
              have n5_ := aA (blk_drew BK131.out)
              have n6_ := aA (below_drew1 HB.out)
              clear HO_13
              clear HO_129000
              clear HO_132000
              clear BK128
              clear BK129
              clear BK131
              clear HB
              have HO_13 := n0_
              have HO_129000 := n1_
              have HO_132000 := n2_
              have BK128 := n3_
              have BK129 := n4_
              have BK131 := n5_
              have HB := n6_
              clear n0_ n1_ n2_ n3_ n4_ n5_ n6_
              have p143 : 0 ≤ (t142 : Int) := of_decide_eq_true (by first | (with_reducible assumption) | assumption)
              have q143 : t142 < (l0_0.length : Int) := of_decide_eq_true (by first | (with_reducible assumption) | assumption)
              obtain ⟨ad143, e143, hx143_0⟩ := Kd.at_string (Kd.V_reads' HO_129000.out).2.2 t142 p143 q143
              cases e143
              replace p143 := eq_true p143
              replace q143 := eq_true q143
              refine start_ (n := 20) (S := fun w' => w'.cell? ⟨gb128, 0, none⟩ = some (.slice (some ad143) l0_0.length c0_0) ∧ w'.cell? ⟨gb131, 0, none⟩ = some (.slice (some ad143) l0_0.length c0_0) ∧ w'.cell? ⟨gb131, 1, none⟩ = some (.int .i64 x132001_1) ∧ w'.cell? ⟨gb131, 2, none⟩ = some (.int .i64 x132002_2) ∧ w'.cell? ⟨gb131, 3, none⟩ = some (.int .i64 x132003_1) ∧ w'.cell? ⟨gb131, 4, none⟩ = some (.bool false) ∧ w'.cell? (ad143.add (t142).toNat) = some (.string (rdOf ByteArray.empty l0_0 t142))) (ds := []) (bA 20 0) (by kernel_rfl) rfl rfl ⟨(blk_cell BK128.out 0).trans rfl, (blk_cell BK131.out 0).trans rfl, (blk_cell BK131.out 1).trans rfl, (blk_cell BK131.out 2).trans rfl, (blk_cell BK131.out 3).trans rfl, (blk_cell BK131.out 4).trans rfl, hx143_0⟩ (fun hHeld => ?_); refine with_tabW store_Boot.tab18 store_Boot.bits18 (fun HT_ HW_ => ?_)
              generalize w100.drew = w101 at HO_13 HO_129000 HO_132000 BK128 BK129 BK131 HB hx143_0 hHeld ⊢
              refine pure_ (i := 0) (N := some 85) (v := ?_) (a' := ?_) (bA 20 1) rfl rfl (any_of HT_.out (by kernel_rfl)) (fun _ _ _ h => h) (Or.inl ⟨by rfl, ?_⟩) ?_ ?_
              rotate_left
              ·intro w'
               go_simp
               with_reducible rfl
              rotate_left
              ·exact mP
              refine pure_ (i := 3) (N := some 88) (v := ?_) (a' := ?_) (bA 20 9) rfl rfl (any_of HT_.out (by kernel_rfl)) (fun _ _ _ h => h) (Or.inl ⟨by rfl, ?_⟩) ?_ ?_
              rotate_left
              ·intro w'
               go_simp
               with_reducible rfl
              rotate_left
              ·exact mP
              refine pure_ (i := 5) (N := some 90) (v := ?_) (a' := ?_) (bA 20 41) rfl rfl (any_of HT_.out (by kernel_rfl)) (fun _ _ _ h => h) (Or.inl ⟨by rfl, ?_⟩) ?_ ?_
              rotate_left
              ·intro w'
               go_simp
               with_reducible rfl
              rotate_left
              ·exact mP
              refine take_ (i := 1) (N := some 86) (v := ?_) (a' := ?_) (bA 20 43) rfl rfl (take_ofW HT_.out HW_.out (by kernel_rfl)) (fun _ _ _ h => h) (Or.inl ⟨by rfl, ?_⟩) hHeld ?_ ?_
              rotate_left
              ·rintro w' ⟨s0, s1, s2, s3, s4, s5, s6⟩
               go_simp
               with_reducible rfl
              rotate_left
              ·exact mP
              refine take_ (i := 2) (N := some 87) (v := ?_) (a' := ?_) (bA 20 47) rfl rfl (take_ofW HT_.out HW_.out (by kernel_rfl)) (fun _ _ _ h => h) (Or.inl ⟨by rfl, ?_⟩) hHeld ?_ ?_
              rotate_left
              ·rintro w' ⟨s0, s1, s2, s3, s4, s5, s6⟩
               go_simp
               with_reducible rfl
              rotate_left
              ·exact mP
              refine take_ (i := 4) (N := some 89) (v := ?_) (a' := ?_) (bA 20 63) rfl rfl (take_ofW HT_.out HW_.out (by kernel_rfl)) (fun _ _ _ h => h) (Or.inl ⟨by rfl, ?_⟩) hHeld ?_ ?_
              rotate_left
              ·rintro w' ⟨s0, s1, s2, s3, s4, s5, s6⟩
               go_simp
               with_reducible rfl
              rotate_left
              ·exact mP
              refine take_ (i := 6) (N := some 91) (v := ?_) (a' := ?_) (bA 20 127) rfl rfl (take_ofW HT_.out HW_.out (by kernel_rfl)) (fun _ _ _ h => h) (Or.inl ⟨by rfl, ?_⟩) hHeld ?_ ?_
              rotate_left
              ·rintro w' ⟨s0, s1, s2, s3, s4, s5, s6⟩
               go_simp
               with_reducible rfl
              rotate_left
              ·exact mP
              refine one_ (i := 7) (N := some 92) (bA 20 255) rfl rfl (one_of HT_.out (by kernel_rfl)) (by decide) (fun K hK => ?_)
              refine goes_ Try.func38 (by kernel_rfl) rfl #[.agg #[.slice (some ad143) l0_0.length c0_0], .int .i64 x132001_1, .int .i64 x132002_2] (by rfl) rfl rfl mS ?_
              with_reducible refine (store_place.calls _ _ l0_0 x132001_1 x132002_2 t142 _ ?side1 ?side2 A81.out).mono ?_
              (case side1 => exact mC ((Kd.V_reads' HO_129000.out).2.2))
              (case side2 => exact (Kd.V_reads' HO_129000.out).2.1)
              rintro e w102 ⟨rfl, hb⟩
              have HS6_ := (hb.cell (World.block_lt_of_cell? _ _ (hHeld.2.2.2.2.2.2))).trans (hHeld.2.2.2.2.2.2)
              refine ⟨_, rfl, ?_⟩
              have n0_ := aA (Kd.R_below (mR HO_13.out) hb)
              have n1_ := aA (Kd.V_below (by (with_reducible repeat (first | apply Kd.V_alloc | apply Kd.V_drewN | apply Kd.V_drew)); exact HO_129000.out) hb)
              have n2_ := aA (Kd.V_below (by (with_reducible repeat (first | apply Kd.V_alloc | apply Kd.V_drewN | apply Kd.V_drew)); exact HO_132000.out) hb)
              have n3_ := aA (bB BK128.out hb)
              have n4_ := aA (bB BK129.out hb)
              have n5_ := aA (bB BK131.out hb)
              have n6_ := aA (below_step (mD3 GE128.out GE129.out GE131.out) hb)
              clear HO_13
              clear HO_129000
              clear HO_132000
              clear BK128
              clear BK129
              clear BK131
              clear HB
              have HO_13 := n0_
              have HO_129000 := n1_
              have HO_132000 := n2_
              have BK128 := n3_
              have BK129 := n4_
              have BK131 := n5_
              have HB := n6_
              clear n0_ n1_ n2_ n3_ n4_ n5_ n6_
              (try clear hb)
              (try clear hb2)
              (try clear hk)
              (try clear hi)
              refine hK.out _ _ ⟨(blk_cell BK128.out 0).trans rfl, (blk_cell BK131.out 0).trans rfl, (blk_cell BK131.out 1).trans rfl, (blk_cell BK131.out 2).trans rfl, (blk_cell BK131.out 3).trans rfl, (blk_cell BK131.out 4).trans rfl, HS6_⟩ (fun hHeld => ?_)
              clear hK K
              refine norm_ (a' := ?_) ?_ ?_
              rotate_left
              ·show Act.put _ (some 92) _ = _
               simp only [Act.put, List.setIfInBounds_toArray, List.set_cons_zero, List.set_cons_succ, i64_w, i32_w]
               rfl
              refine pure_ (i := 8) (N := some 93) (v := ?_) (a' := ?_) (bA 20 511) rfl rfl (any_of HT_.out (by kernel_rfl)) (fun _ _ _ h => h) (Or.inl ⟨by rfl, ?_⟩) ?_ ?_
              rotate_left
              ·intro w'
               go_simp
               with_reducible rfl
              rotate_left
              ·exact mP
              refine take_ (i := 9) (N := some 94) (v := ?_) (a' := ?_) (bA 20 1023) rfl rfl (take_ofW HT_.out HW_.out (by kernel_rfl)) (fun _ _ _ h => h) (Or.inl ⟨by rfl, ?_⟩) hHeld ?_ ?_
              rotate_left
              ·rintro w' ⟨s0, s1, s2, s3, s4, s5, s6⟩
               go_simp
               with_reducible rfl
              rotate_left
              ·exact mP
              refine one_ (i := 10) (N := some 95) (bA 20 2047) rfl rfl (one_of HT_.out (by kernel_rfl)) (by decide) (fun K hK => ?_)
              refine goes_ Try.func36 (by kernel_rfl) rfl #[.string (rdOf ByteArray.empty l0_0 t142)] (by rfl) rfl rfl mS ?_
              with_reducible refine (seal_Open.calls (rdOf ByteArray.empty l0_0 t142) t144 t145 t146 t147 _ A84.out).mono ?_
              rintro e w103 ⟨rfl, hb⟩
              have HS6_ := (hb.cell (World.block_lt_of_cell? _ _ (hHeld.2.2.2.2.2.2))).trans (hHeld.2.2.2.2.2.2)
              refine ⟨_, rfl, ?_⟩
              have n0_ := aA (Kd.R_below (mR HO_13.out) hb)
              have n1_ := aA (Kd.V_below (by (with_reducible repeat (first | apply Kd.V_alloc | apply Kd.V_drewN | apply Kd.V_drew)); exact HO_129000.out) hb)
              have n2_ := aA (Kd.V_below (by (with_reducible repeat (first | apply Kd.V_alloc | apply Kd.V_drewN | apply Kd.V_drew)); exact HO_132000.out) hb)
              have n3_ := aA (bB BK128.out hb)
              have n4_ := aA (bB BK129.out hb)
              have n5_ := aA (bB BK131.out hb)
              have n6_ := aA (below_step (mD3 GE128.out GE129.out GE131.out) hb)
              clear HO_13
              clear HO_129000
              clear HO_132000
              clear BK128
              clear BK129
              clear BK131
              clear HB
              have HO_13 := n0_
              have HO_129000 := n1_
              have HO_132000 := n2_
              have BK128 := n3_
              have BK129 := n4_
              have BK131 := n5_
              have HB := n6_
              clear n0_ n1_ n2_ n3_ n4_ n5_ n6_
              (try clear hb)
              (try clear hb2)
              (try clear hk)
              (try clear hi)
              refine hK.out _ _ ⟨(blk_cell BK128.out 0).trans rfl, (blk_cell BK131.out 0).trans rfl, (blk_cell BK131.out 1).trans rfl, (blk_cell BK131.out 2).trans rfl, (blk_cell BK131.out 3).trans rfl, (blk_cell BK131.out 4).trans rfl, HS6_⟩ (fun hHeld => ?_)
              clear hK K
              refine norm_ (a' := ?_) ?_ ?_
              rotate_left
              ·show Act.put _ (some 95) _ = _
               simp only [Act.put, List.setIfInBounds_toArray, List.set_cons_zero, List.set_cons_succ, i64_w, i32_w]
               rfl
              refine pure_ (i := 11) (N := some 84) (v := ?_) (a' := ?_) (bA 20 4095) rfl rfl (any_of HT_.out (by kernel_rfl)) (fun _ _ _ h => h) (Or.inl ⟨by rfl, ?_⟩) ?_ ?_
              rotate_left
              ·intro w'
               go_simp
               with_reducible rfl
              rotate_left
              ·exact mP
              refine pure_ (i := 12) (N := some 96) (v := ?_) (a' := ?_) (bA 20 8191) rfl rfl (any_of HT_.out (by kernel_rfl)) (fun _ _ _ h => h) (Or.inl ⟨by rfl, ?_⟩) ?_ ?_
              rotate_left
              ·intro w'
               go_simp
               with_reducible rfl
              rotate_left
              ·exact mP
              refine pure_ (i := 13) (N := some 97) (v := ?_) (a' := ?_) (bA 20 16383) rfl rfl (any_of HT_.out (by kernel_rfl)) (fun _ _ _ h => h) (Or.inl ⟨by rfl, ?_⟩) ?_ ?_
              rotate_left
              ·intro w'
               go_simp
               with_reducible rfl
              rotate_left
              ·exact mP
              refine pure_ (i := 14) (N := some 98) (v := ?_) (a' := ?_) (bA 20 32767) rfl rfl (any_of HT_.out (by kernel_rfl)) (fun _ _ _ h => h) (Or.inl ⟨by rfl, ?_⟩) ?_ ?_
              rotate_left
              ·intro w'
               go_simp
               with_reducible rfl
              rotate_left
              ·exact mP
              refine pure_ (i := 15) (N := some 99) (v := ?_) (a' := ?_) (bA 20 65535) rfl rfl (any_of HT_.out (by kernel_rfl)) (fun _ _ _ h => h) (Or.inl ⟨by rfl, ?_⟩) ?_ ?_
              rotate_left
              ·intro w'
               go_simp
               with_reducible rfl
              rotate_left
              ·exact mP
              refine pure_ (i := 16) (N := some 14) (v := ?_) (a' := ?_) (bA 20 131071) rfl rfl (any_of HT_.out (by kernel_rfl)) (fun _ _ _ h => h) (Or.inl ⟨by rfl, ?_⟩) ?_ ?_
              rotate_left
              ·intro w'
               go_simp
               with_reducible rfl
              rotate_left
              ·exact mP
              refine pure_ (i := 17) (N := some 15) (v := ?_) (a' := ?_) (bA 20 262143) rfl rfl (any_of HT_.out (by kernel_rfl)) (fun _ _ _ h => h) (Or.inl ⟨by rfl, ?_⟩) ?_ ?_
              rotate_left
              ·intro w'
               go_simp
               with_reducible rfl
              rotate_left
              ·exact mP
              refine pure_ (i := 18) (N := some 16) (v := ?_) (a' := ?_) (bA 20 524287) rfl rfl (any_of HT_.out (by kernel_rfl)) (fun _ _ _ h => h) (Or.inl ⟨by rfl, ?_⟩) ?_ ?_
              rotate_left
              ·intro w'
               go_simp
               with_reducible rfl
              rotate_left
              ·exact mP
              refine pure_ (i := 19) (N := some 17) (v := ?_) (a' := ?_) (bA 20 1048575) rfl rfl (any_of HT_.out (by kernel_rfl)) (fun _ _ _ h => h) (Or.inl ⟨by rfl, ?_⟩) ?_ ?_
              rotate_left
              ·intro w'
               go_simp
               with_reducible rfl
              rotate_left
              ·exact mP
              refine done_ (done_of HT_.out (by kernel_rfl)) ?_
              have hnb104 := NB131_128.out
              have hnc104 := NB128_131.out
              have hnb105 := NB131_129.out
              have hnc105 := NB129_131.out
              obtain ⟨hcz106_0, hcz106_1, hcz106_2, hcz106_3, hcz106_4⟩ := bC5 BK131.out
              obtain ⟨hfz106_0, hfz106_1, hfz106_2, hfz106_3, hfz106_4⟩ := bF5 BK131.out
              have hnb107 := NB129_128.out
              have hnc107 := NB128_129.out
              obtain ⟨hcz108_0, hcz108_1, hcz108_2, hcz108_3, hcz108_4⟩ := bC5 BK129.out
              obtain ⟨hfz108_0, hfz108_1, hfz108_2, hfz108_3, hfz108_4⟩ := bF5 BK129.out
              try go_wp2
              refine bodyPost_ret (results_ctt rfl _ _ gb129 26 #[.slice (some ad143) l0_0.length c0_0, .int .i64 x132001_1, .int .i64 x132002_2, .int .i64 x132003_1, .bool false] (0, 0) _ rfl (by (with_reducible repeat (first | refine blk_drewN ?_ _ | refine blk_drew ?_ | refine blk_alloc ?_ _)); have h_ := BK129.out; exact pK 4 (pK 3 (pK 2 (pK 1 (pK 0 (h_)))))) Try.underlying26 rfl (by kernel_rfl)) rfl ?_
              exact ⟨_, _, by first | rfl | (simp [errW_none, errW_some] <;> rfl) | (simp [*, errW_none, errW_some] <;> rfl), by (with_reducible repeat (first | apply Kd.V_alloc | apply Kd.V_drewN | apply Kd.V_drew)); exact Kd.V_mono (Kd.V_far (p := ⟨gb129, 4, none⟩) (Kd.V_far (p := ⟨gb129, 3, none⟩) (Kd.V_far (p := ⟨gb129, 2, none⟩) (Kd.V_far (p := ⟨gb129, 1, none⟩) (Kd.V_far (p := ⟨gb129, 0, none⟩) (Kd.V_mono HO_132000.out (fun k_ hk => (⟨hk, hk.2.2.2.1⟩ : _ ∧ k_ ≠ gb129))) (fun _ hk => hk.2) (.slice (some ad143) l0_0.length c0_0)) (fun _ hk => hk.2) (.int .i64 x132001_1)) (fun _ hk => hk.2) (.int .i64 x132002_2)) (fun _ hk => hk.2) (.int .i64 x132003_1)) (fun _ hk => hk.2) (.bool false)) (fun _ hk => ⟨hk.1.1, hk.1.2.1⟩), by (with_reducible repeat (first | apply Kd.R_alloc | apply Kd.R_drewN | apply Kd.R_drew)); exact Kd.R_mono (rF 4 (rF 3 (rF 2 (rF 1 (rF 0 (Kd.R_types HO_13.out BK129.out (by decide))))))) (fun _ hk => hk.1), by repeat (first | (with_reducible first | exact HB.out | apply below_alloc | apply pw_below_drewN | apply below_drew1 | refine below_set ?_ GE128.out | refine below_set ?_ GE129.out | refine below_set ?_ GE131.out) | exact HB.out)⟩
            ·rw [if_neg c86] at H
             have c86b0 : (t144 == x132001_1) = false := beq_eq_false_iff_ne.mpr c86
             have c86b1 : (t144 != x132001_1) = true := bne_iff_ne.mpr c86
             simp only [Option.some.injEq, Prod.mk.injEq] at H
             obtain ⟨rfl, rfl, rfl, rfl, rfl, rfl, rfl⟩ := H
             try go_wp2
             have n0_ := aA (Kd.R_drew HO_13.out)
             have n1_ := aA (Kd.V_drew HO_129000.out)
             have n2_ := aA (Kd.V_drew HO_132000.out)
             have n3_ := aA (blk_drew BK128.out)
             have n4_ := aA (blk_drew BK129.out)
             have n5_ := aA (blk_drew BK131.out)
             have n6_ := aA (below_drew1 HB.out)
             clear HO_13
             clear HO_129000
             clear HO_132000
             clear BK128
             clear BK129
             clear BK131
             clear HB
             have HO_13 := n0_
             have HO_129000 := n1_
             have HO_132000 := n2_
             have BK128 := n3_
             have BK129 := n4_
             have BK131 := n5_
             have HB := n6_
             clear n0_ n1_ n2_ n3_ n4_ n5_ n6_
             refine start_ (n := 5) (S := fun w' => w'.cell? ⟨gb131, 0, none⟩ = some (.slice A0_0 l0_0.length c0_0) ∧ w'.cell? ⟨gb131, 1, none⟩ = some (.int .i64 x132001_1) ∧ w'.cell? ⟨gb131, 2, none⟩ = some (.int .i64 x132002_2) ∧ w'.cell? ⟨gb131, 3, none⟩ = some (.int .i64 x132003_1) ∧ w'.cell? ⟨gb131, 4, none⟩ = some (.bool false) ∧ w'.cell? ⟨gb128, 0, none⟩ = some (.slice A0_0 l0_0.length c0_0)) (ds := []) #[false, false, false, false, false] (by kernel_rfl) rfl rfl ⟨(blk_cell BK131.out 0).trans rfl, (blk_cell BK131.out 1).trans rfl, (blk_cell BK131.out 2).trans rfl, (blk_cell BK131.out 3).trans rfl, (blk_cell BK131.out 4).trans rfl, (blk_cell BK128.out 0).trans rfl⟩ (fun hHeld => ?_)
             generalize wr.drew = w109 at HO_13 HO_129000 HO_132000 BK128 BK129 BK131 HB hHeld ⊢
             refine pure_ (i := 0) (N := some 79) (v := ?_) (a' := ?_) #[true, false, false, false, false] rfl rfl (by kernel_rfl) (fun _ _ _ h => h) (Or.inl ⟨by rfl, ?_⟩) ?_ ?_
             rotate_left
             ·intro w'
              go_simp
              with_reducible rfl
             rotate_left
             ·exact mP
             refine take_ (i := 1) (N := some 80) (v := ?_) (a' := ?_) #[true, true, false, false, false] rfl rfl (by kernel_rfl) (fun _ _ _ h => h) (Or.inl ⟨by rfl, ?_⟩) hHeld ?_ ?_
             rotate_left
             ·rintro w' ⟨s0, s1, s2, s3, s4, s5⟩
              go_simp
              with_reducible rfl
             rotate_left
             ·exact mP
             refine take_ (i := 2) (N := some 81) (v := ?_) (a' := ?_) #[true, true, true, false, false] rfl rfl (by kernel_rfl) (fun _ _ _ h => h) (Or.inl ⟨by rfl, ?_⟩) hHeld ?_ ?_
             rotate_left
             ·rintro w' ⟨s0, s1, s2, s3, s4, s5⟩
              go_simp
              with_reducible rfl
             rotate_left
             ·exact mP
             refine one_ (i := 3) (N := some 82) #[true, true, true, true, false] rfl rfl (by kernel_rfl) (by decide) (fun K hK => ?_)
             refine goes_ Try.func37 (by kernel_rfl) rfl #[.agg #[.slice A0_0 l0_0.length c0_0]] (by rfl) rfl rfl mS ?_
             with_reducible refine (store_area.calls _ _ l0_0 t141 _ ?side1 ?side2 A79.out).mono ?_
             (case side1 => exact mC ((Kd.V_reads' HO_129000.out).2.2))
             (case side2 => exact (Kd.V_reads' HO_129000.out).2.1)
             rintro e w110 ⟨rfl, hb⟩
             refine ⟨_, rfl, ?_⟩
             have n0_ := aA (Kd.R_below (mR HO_13.out) hb)
             have n1_ := aA (Kd.V_below (by (with_reducible repeat (first | apply Kd.V_alloc | apply Kd.V_drewN | apply Kd.V_drew)); exact HO_129000.out) hb)
             have n2_ := aA (Kd.V_below (by (with_reducible repeat (first | apply Kd.V_alloc | apply Kd.V_drewN | apply Kd.V_drew)); exact HO_132000.out) hb)
             have n3_ := aA (bB BK128.out hb)
             have n4_ := aA (bB BK129.out hb)
             have n5_ := aA (bB BK131.out hb)
             have n6_ := aA (below_step (mD3 GE128.out GE129.out GE131.out) hb)
             clear HO_13
             clear HO_129000
             clear HO_132000
             clear BK128
             clear BK129
             clear BK131
             clear HB
             have HO_13 := n0_
             have HO_129000 := n1_
             have HO_132000 := n2_
             have BK128 := n3_
             have BK129 := n4_
             have BK131 := n5_
             have HB := n6_
             clear n0_ n1_ n2_ n3_ n4_ n5_ n6_
             (try clear hb)
             (try clear hb2)
             (try clear hk)
             (try clear hi)
             refine hK.out _ _ ⟨(blk_cell BK131.out 0).trans rfl, (blk_cell BK131.out 1).trans rfl, (blk_cell BK131.out 2).trans rfl, (blk_cell BK131.out 3).trans rfl, (blk_cell BK131.out 4).trans rfl, (blk_cell BK128.out 0).trans rfl⟩ (fun hHeld => ?_)
             clear hK K
             refine norm_ (a' := ?_) ?_ ?_
             rotate_left
             ·show Act.put _ (some 82) _ = _
              simp only [Act.put, List.setIfInBounds_toArray, List.set_cons_zero, List.set_cons_succ, i64_w, i32_w]
              rfl
             refine pure_ (i := 4) (N := some 83) (v := ?_) (a' := ?_) #[true, true, true, true, true] rfl rfl (by kernel_rfl) (fun _ _ _ h => h) (Or.inl ⟨by rfl, ?_⟩) ?_ ?_
             rotate_left
             ·intro w'
              go_simp
              with_reducible rfl
             rotate_left
             ·exact mP
             refine done_ (by kernel_rfl) ?_
             try go_wp2
             have n0_ := aA (Kd.R_drew HO_13.out)
             have n1_ := aA (Kd.V_drew HO_129000.out)
             have n2_ := aA (Kd.V_drew HO_132000.out)
             have n3_ := aA (blk_drew BK128.out)
             have n4_ := aA (blk_drew BK129.out)
             have n5_ := aA (blk_drew BK131.out)
             have n6_ := aA (below_drew1 HB.out)
             clear HO_13
             clear HO_129000
             clear HO_132000
             clear BK128
             clear BK129
             clear BK131
             clear HB
             have HO_13 := n0_
             have HO_129000 := n1_
             have HO_132000 := n2_
             have BK128 := n3_
             have BK129 := n4_
             have BK131 := n5_
             have HB := n6_
             clear n0_ n1_ n2_ n3_ n4_ n5_ n6_
             have p143 : 0 ≤ (t142 : Int) := of_decide_eq_true (by first | (with_reducible assumption) | assumption)
             have q143 : t142 < (l0_0.length : Int) := of_decide_eq_true (by first | (with_reducible assumption) | assumption)
             obtain ⟨ad143, e143, hx143_0⟩ := Kd.at_string (Kd.V_reads' HO_129000.out).2.2 t142 p143 q143
             cases e143
             replace p143 := eq_true p143
             replace q143 := eq_true q143
             refine start_ (n := 20) (S := fun w' => w'.cell? ⟨gb128, 0, none⟩ = some (.slice (some ad143) l0_0.length c0_0) ∧ w'.cell? ⟨gb131, 0, none⟩ = some (.slice (some ad143) l0_0.length c0_0) ∧ w'.cell? ⟨gb131, 1, none⟩ = some (.int .i64 x132001_1) ∧ w'.cell? ⟨gb131, 2, none⟩ = some (.int .i64 x132002_2) ∧ w'.cell? ⟨gb131, 3, none⟩ = some (.int .i64 x132003_1) ∧ w'.cell? ⟨gb131, 4, none⟩ = some (.bool false) ∧ w'.cell? (ad143.add (t142).toNat) = some (.string (rdOf ByteArray.empty l0_0 t142))) (ds := []) (bA 20 0) (by kernel_rfl) rfl rfl ⟨(blk_cell BK128.out 0).trans rfl, (blk_cell BK131.out 0).trans rfl, (blk_cell BK131.out 1).trans rfl, (blk_cell BK131.out 2).trans rfl, (blk_cell BK131.out 3).trans rfl, (blk_cell BK131.out 4).trans rfl, hx143_0⟩ (fun hHeld => ?_); refine with_tabW store_Boot.tab18 store_Boot.bits18 (fun HT_ HW_ => ?_)
             generalize w110.drew = w111 at HO_13 HO_129000 HO_132000 BK128 BK129 BK131 HB hx143_0 hHeld ⊢
             refine pure_ (i := 0) (N := some 85) (v := ?_) (a' := ?_) (bA 20 1) rfl rfl (any_of HT_.out (by kernel_rfl)) (fun _ _ _ h => h) (Or.inl ⟨by rfl, ?_⟩) ?_ ?_
             rotate_left
             ·intro w'
              go_simp
              with_reducible rfl
             rotate_left
             ·exact mP
             refine pure_ (i := 3) (N := some 88) (v := ?_) (a' := ?_) (bA 20 9) rfl rfl (any_of HT_.out (by kernel_rfl)) (fun _ _ _ h => h) (Or.inl ⟨by rfl, ?_⟩) ?_ ?_
             rotate_left
             ·intro w'
              go_simp
              with_reducible rfl
             rotate_left
             ·exact mP
             refine pure_ (i := 5) (N := some 90) (v := ?_) (a' := ?_) (bA 20 41) rfl rfl (any_of HT_.out (by kernel_rfl)) (fun _ _ _ h => h) (Or.inl ⟨by rfl, ?_⟩) ?_ ?_
             rotate_left
             ·intro w'
              go_simp
              with_reducible rfl
             rotate_left
             ·exact mP
             refine take_ (i := 1) (N := some 86) (v := ?_) (a' := ?_) (bA 20 43) rfl rfl (take_ofW HT_.out HW_.out (by kernel_rfl)) (fun _ _ _ h => h) (Or.inl ⟨by rfl, ?_⟩) hHeld ?_ ?_
             rotate_left
             ·rintro w' ⟨s0, s1, s2, s3, s4, s5, s6⟩
              go_simp
              with_reducible rfl
             rotate_left
             ·exact mP
             refine take_ (i := 2) (N := some 87) (v := ?_) (a' := ?_) (bA 20 47) rfl rfl (take_ofW HT_.out HW_.out (by kernel_rfl)) (fun _ _ _ h => h) (Or.inl ⟨by rfl, ?_⟩) hHeld ?_ ?_
             rotate_left
             ·rintro w' ⟨s0, s1, s2, s3, s4, s5, s6⟩
              go_simp
              with_reducible rfl
             rotate_left
             ·exact mP
             refine take_ (i := 4) (N := some 89) (v := ?_) (a' := ?_) (bA 20 63) rfl rfl (take_ofW HT_.out HW_.out (by kernel_rfl)) (fun _ _ _ h => h) (Or.inl ⟨by rfl, ?_⟩) hHeld ?_ ?_
             rotate_left
             ·rintro w' ⟨s0, s1, s2, s3, s4, s5, s6⟩
              go_simp
              with_reducible rfl
             rotate_left
             ·exact mP
             refine take_ (i := 6) (N := some 91) (v := ?_) (a' := ?_) (bA 20 127) rfl rfl (take_ofW HT_.out HW_.out (by kernel_rfl)) (fun _ _ _ h => h) (Or.inl ⟨by rfl, ?_⟩) hHeld ?_ ?_
             rotate_left
             ·rintro w' ⟨s0, s1, s2, s3, s4, s5, s6⟩
              go_simp
              with_reducible rfl
             rotate_left
             ·exact mP
             refine one_ (i := 7) (N := some 92) (bA 20 255) rfl rfl (one_of HT_.out (by kernel_rfl)) (by decide) (fun K hK => ?_)
             refine goes_ Try.func38 (by kernel_rfl) rfl #[.agg #[.slice (some ad143) l0_0.length c0_0], .int .i64 x132001_1, .int .i64 x132002_2] (by rfl) rfl rfl mS ?_
             with_reducible refine (store_place.calls _ _ l0_0 x132001_1 x132002_2 t142 _ ?side1 ?side2 A81.out).mono ?_
             (case side1 => exact mC ((Kd.V_reads' HO_129000.out).2.2))
             (case side2 => exact (Kd.V_reads' HO_129000.out).2.1)
             rintro e w112 ⟨rfl, hb⟩
             have HS6_ := (hb.cell (World.block_lt_of_cell? _ _ (hHeld.2.2.2.2.2.2))).trans (hHeld.2.2.2.2.2.2)
             refine ⟨_, rfl, ?_⟩
             have n0_ := aA (Kd.R_below (mR HO_13.out) hb)
             have n1_ := aA (Kd.V_below (by (with_reducible repeat (first | apply Kd.V_alloc | apply Kd.V_drewN | apply Kd.V_drew)); exact HO_129000.out) hb)
             have n2_ := aA (Kd.V_below (by (with_reducible repeat (first | apply Kd.V_alloc | apply Kd.V_drewN | apply Kd.V_drew)); exact HO_132000.out) hb)
             have n3_ := aA (bB BK128.out hb)
             have n4_ := aA (bB BK129.out hb)
             have n5_ := aA (bB BK131.out hb)
             have n6_ := aA (below_step (mD3 GE128.out GE129.out GE131.out) hb)
             clear HO_13
             clear HO_129000
             clear HO_132000
             clear BK128
             clear BK129
             clear BK131
             clear HB
             have HO_13 := n0_
             have HO_129000 := n1_
             have HO_132000 := n2_
             have BK128 := n3_
             have BK129 := n4_
             have BK131 := n5_
             have HB := n6_
             clear n0_ n1_ n2_ n3_ n4_ n5_ n6_
             (try clear hb)
             (try clear hb2)
             (try clear hk)
             (try clear hi)
             refine hK.out _ _ ⟨(blk_cell BK128.out 0).trans rfl, (blk_cell BK131.out 0).trans rfl, (blk_cell BK131.out 1).trans rfl, (blk_cell BK131.out 2).trans rfl, (blk_cell BK131.out 3).trans rfl, (blk_cell BK131.out 4).trans rfl, HS6_⟩ (fun hHeld => ?_)
             clear hK K
             refine norm_ (a' := ?_) ?_ ?_
             rotate_left
             ·show Act.put _ (some 92) _ = _
              simp only [Act.put, List.setIfInBounds_toArray, List.set_cons_zero, List.set_cons_succ, i64_w, i32_w]
              rfl
             refine pure_ (i := 8) (N := some 93) (v := ?_) (a' := ?_) (bA 20 511) rfl rfl (any_of HT_.out (by kernel_rfl)) (fun _ _ _ h => h) (Or.inl ⟨by rfl, ?_⟩) ?_ ?_
             rotate_left
             ·intro w'
              go_simp
              with_reducible rfl
             rotate_left
             ·exact mP
             refine take_ (i := 9) (N := some 94) (v := ?_) (a' := ?_) (bA 20 1023) rfl rfl (take_ofW HT_.out HW_.out (by kernel_rfl)) (fun _ _ _ h => h) (Or.inl ⟨by rfl, ?_⟩) hHeld ?_ ?_
             rotate_left
             ·rintro w' ⟨s0, s1, s2, s3, s4, s5, s6⟩
              go_simp
              with_reducible rfl
             rotate_left
             ·exact mP
             refine one_ (i := 10) (N := some 95) (bA 20 2047) rfl rfl (one_of HT_.out (by kernel_rfl)) (by decide) (fun K hK => ?_)
             refine goes_ Try.func36 (by kernel_rfl) rfl #[.string (rdOf ByteArray.empty l0_0 t142)] (by rfl) rfl rfl mS ?_
             with_reducible refine (seal_Open.calls (rdOf ByteArray.empty l0_0 t142) t144 t145 t146 t147 _ A84.out).mono ?_
             rintro e w113 ⟨rfl, hb⟩
             have HS6_ := (hb.cell (World.block_lt_of_cell? _ _ (hHeld.2.2.2.2.2.2))).trans (hHeld.2.2.2.2.2.2)
             refine ⟨_, rfl, ?_⟩
             have n0_ := aA (Kd.R_below (mR HO_13.out) hb)
             have n1_ := aA (Kd.V_below (by (with_reducible repeat (first | apply Kd.V_alloc | apply Kd.V_drewN | apply Kd.V_drew)); exact HO_129000.out) hb)
             have n2_ := aA (Kd.V_below (by (with_reducible repeat (first | apply Kd.V_alloc | apply Kd.V_drewN | apply Kd.V_drew)); exact HO_132000.out) hb)
             have n3_ := aA (bB BK128.out hb)
             have n4_ := aA (bB BK129.out hb)
             have n5_ := aA (bB BK131.out hb)
             have n6_ := aA (below_step (mD3 GE128.out GE129.out GE131.out) hb)
             clear HO_13
             clear HO_129000
             clear HO_132000
             clear BK128
             clear BK129
             clear BK131
             clear HB
             have HO_13 := n0_
             have HO_129000 := n1_
             have HO_132000 := n2_
             have BK128 := n3_
             have BK129 := n4_
             have BK131 := n5_
             have HB := n6_
             clear n0_ n1_ n2_ n3_ n4_ n5_ n6_
             (try clear hb)
             (try clear hb2)
             (try clear hk)
             (try clear hi)
             refine hK.out _ _ ⟨(blk_cell BK128.out 0).trans rfl, (blk_cell BK131.out 0).trans rfl, (blk_cell BK131.out 1).trans rfl, (blk_cell BK131.out 2).trans rfl, (blk_cell BK131.out 3).trans rfl, (blk_cell BK131.out 4).trans rfl, HS6_⟩ (fun hHeld => ?_)
             clear hK K
             refine norm_ (a' := ?_) ?_ ?_
             rotate_left
             ·show Act.put _ (some 95) _ = _
              simp only [Act.put, List.setIfInBounds_toArray, List.set_cons_zero, List.set_cons_succ, i64_w, i32_w]
              rfl
             refine pure_ (i := 11) (N := some 84) (v := ?_) (a' := ?_) (bA 20 4095) rfl rfl (any_of HT_.out (by kernel_rfl)) (fun _ _ _ h => h) (Or.inl ⟨by rfl, ?_⟩) ?_ ?_
             rotate_left
             ·intro w'
              go_simp
              with_reducible rfl
             rotate_left
             ·exact mP
             refine pure_ (i := 12) (N := some 96) (v := ?_) (a' := ?_) (bA 20 8191) rfl rfl (any_of HT_.out (by kernel_rfl)) (fun _ _ _ h => h) (Or.inl ⟨by rfl, ?_⟩) ?_ ?_
             rotate_left
             ·intro w'
              go_simp
              with_reducible rfl
             rotate_left
             ·exact mP
             refine pure_ (i := 13) (N := some 97) (v := ?_) (a' := ?_) (bA 20 16383) rfl rfl (any_of HT_.out (by kernel_rfl)) (fun _ _ _ h => h) (Or.inl ⟨by rfl, ?_⟩) ?_ ?_
             rotate_left
             ·intro w'
              go_simp
              with_reducible rfl
             rotate_left
             ·exact mP
             refine pure_ (i := 14) (N := some 98) (v := ?_) (a' := ?_) (bA 20 32767) rfl rfl (any_of HT_.out (by kernel_rfl)) (fun _ _ _ h => h) (Or.inl ⟨by rfl, ?_⟩) ?_ ?_
             rotate_left
             ·intro w'
              go_simp
              with_reducible rfl
             rotate_left
             ·exact mP
             refine pure_ (i := 15) (N := some 99) (v := ?_) (a' := ?_) (bA 20 65535) rfl rfl (any_of HT_.out (by kernel_rfl)) (fun _ _ _ h => h) (Or.inl ⟨by rfl, ?_⟩) ?_ ?_
             rotate_left
             ·intro w'
              go_simp
              with_reducible rfl
             rotate_left
             ·exact mP
             refine pure_ (i := 16) (N := some 14) (v := ?_) (a' := ?_) (bA 20 131071) rfl rfl (any_of HT_.out (by kernel_rfl)) (fun _ _ _ h => h) (Or.inl ⟨by rfl, ?_⟩) ?_ ?_
             rotate_left
             ·intro w'
              go_simp
              with_reducible rfl
             rotate_left
             ·exact mP
             refine pure_ (i := 17) (N := some 15) (v := ?_) (a' := ?_) (bA 20 262143) rfl rfl (any_of HT_.out (by kernel_rfl)) (fun _ _ _ h => h) (Or.inl ⟨by rfl, ?_⟩) ?_ ?_
             rotate_left
             ·intro w'
              go_simp
              with_reducible rfl
             rotate_left
             ·exact mP
             refine pure_ (i := 18) (N := some 16) (v := ?_) (a' := ?_) (bA 20 524287) rfl rfl (any_of HT_.out (by kernel_rfl)) (fun _ _ _ h => h) (Or.inl ⟨by rfl, ?_⟩) ?_ ?_
             rotate_left
             ·intro w'
              go_simp
              with_reducible rfl
             rotate_left
             ·exact mP
             refine pure_ (i := 19) (N := some 17) (v := ?_) (a' := ?_) (bA 20 1048575) rfl rfl (any_of HT_.out (by kernel_rfl)) (fun _ _ _ h => h) (Or.inl ⟨by rfl, ?_⟩) ?_ ?_
             rotate_left
             ·intro w'
              go_simp
              with_reducible rfl
             rotate_left
             ·exact mP
             refine done_ (done_of HT_.out (by kernel_rfl)) ?_
             have hnb114 := NB131_128.out
             have hnc114 := NB128_131.out
             have hnb115 := NB131_129.out
             have hnc115 := NB129_131.out
             obtain ⟨hcz116_0, hcz116_1, hcz116_2, hcz116_3, hcz116_4⟩ := bC5 BK131.out
             obtain ⟨hfz116_0, hfz116_1, hfz116_2, hfz116_3, hfz116_4⟩ := bF5 BK131.out
             have hnb117 := NB129_128.out
             have hnc117 := NB128_129.out
             obtain ⟨hcz118_0, hcz118_1, hcz118_2, hcz118_3, hcz118_4⟩ := bC5 BK129.out
             obtain ⟨hfz118_0, hfz118_1, hfz118_2, hfz118_3, hfz118_4⟩ := bF5 BK129.out
             try go_wp2
             refine bodyPost_ret (results_ctt rfl _ _ gb129 26 #[.slice (some ad143) l0_0.length c0_0, .int .i64 x132001_1, .int .i64 x132002_2, .int .i64 x132003_1, .bool false] (0, 0) _ rfl (by (with_reducible repeat (first | refine blk_drewN ?_ _ | refine blk_drew ?_ | refine blk_alloc ?_ _)); have h_ := BK129.out; exact pK 4 (pK 3 (pK 2 (pK 1 (pK 0 (h_)))))) Try.underlying26 rfl (by kernel_rfl)) rfl ?_
             exact ⟨_, _, by first | rfl | (simp [errW_none, errW_some] <;> rfl) | (simp [*, errW_none, errW_some] <;> rfl), by (with_reducible repeat (first | apply Kd.V_alloc | apply Kd.V_drewN | apply Kd.V_drew)); exact Kd.V_mono (Kd.V_far (p := ⟨gb129, 4, none⟩) (Kd.V_far (p := ⟨gb129, 3, none⟩) (Kd.V_far (p := ⟨gb129, 2, none⟩) (Kd.V_far (p := ⟨gb129, 1, none⟩) (Kd.V_far (p := ⟨gb129, 0, none⟩) (Kd.V_mono HO_132000.out (fun k_ hk => (⟨hk, hk.2.2.2.1⟩ : _ ∧ k_ ≠ gb129))) (fun _ hk => hk.2) (.slice (some ad143) l0_0.length c0_0)) (fun _ hk => hk.2) (.int .i64 x132001_1)) (fun _ hk => hk.2) (.int .i64 x132002_2)) (fun _ hk => hk.2) (.int .i64 x132003_1)) (fun _ hk => hk.2) (.bool false)) (fun _ hk => ⟨hk.1.1, hk.1.2.1⟩), by (with_reducible repeat (first | apply Kd.R_alloc | apply Kd.R_drewN | apply Kd.R_drew)); exact Kd.R_mono (rF 4 (rF 3 (rF 2 (rF 1 (rF 0 (Kd.R_types HO_13.out BK129.out (by decide))))))) (fun _ hk => hk.1), by repeat (first | (with_reducible first | exact HB.out | apply below_alloc | apply pw_below_drewN | apply below_drew1 | refine below_set ?_ GE128.out | refine below_set ?_ GE129.out | refine below_set ?_ GE131.out) | exact HB.out)⟩
           ·rw [if_neg c85] at H
            have c85b0 : (t147 == 0) = false := beq_eq_false_iff_ne.mpr c85
            have c85b1 : (t147 != 0) = true := bne_iff_ne.mpr c85
            simp only [Option.some.injEq, Prod.mk.injEq] at H
            obtain ⟨rfl, rfl, rfl, rfl, rfl, rfl, rfl⟩ := H
            try go_wp2
            have n0_ := aA (Kd.R_drew HO_13.out)
            have n1_ := aA (Kd.V_drew HO_129000.out)
            have n2_ := aA (Kd.V_drew HO_132000.out)
            have n3_ := aA (blk_drew BK128.out)
            have n4_ := aA (blk_drew BK129.out)
            have n5_ := aA (blk_drew BK131.out)
            have n6_ := aA (below_drew1 HB.out)
            clear HO_13
            clear HO_129000
            clear HO_132000
            clear BK128
            clear BK129
            clear BK131
            clear HB
            have HO_13 := n0_
            have HO_129000 := n1_
            have HO_132000 := n2_
            have BK128 := n3_
            have BK129 := n4_
            have BK131 := n5_
            have HB := n6_
            clear n0_ n1_ n2_ n3_ n4_ n5_ n6_
            refine start_ (n := 5) (S := fun w' => w'.cell? ⟨gb131, 0, none⟩ = some (.slice A0_0 l0_0.length c0_0) ∧ w'.cell? ⟨gb131, 1, none⟩ = some (.int .i64 x132001_1) ∧ w'.cell? ⟨gb131, 2, none⟩ = some (.int .i64 x132002_2) ∧ w'.cell? ⟨gb131, 3, none⟩ = some (.int .i64 x132003_1) ∧ w'.cell? ⟨gb131, 4, none⟩ = some (.bool false) ∧ w'.cell? ⟨gb128, 0, none⟩ = some (.slice A0_0 l0_0.length c0_0)) (ds := []) #[false, false, false, false, false] (by kernel_rfl) rfl rfl ⟨(blk_cell BK131.out 0).trans rfl, (blk_cell BK131.out 1).trans rfl, (blk_cell BK131.out 2).trans rfl, (blk_cell BK131.out 3).trans rfl, (blk_cell BK131.out 4).trans rfl, (blk_cell BK128.out 0).trans rfl⟩ (fun hHeld => ?_)
            generalize wr.drew = w119 at HO_13 HO_129000 HO_132000 BK128 BK129 BK131 HB hHeld ⊢
            refine pure_ (i := 0) (N := some 79) (v := ?_) (a' := ?_) #[true, false, false, false, false] rfl rfl (by kernel_rfl) (fun _ _ _ h => h) (Or.inl ⟨by rfl, ?_⟩) ?_ ?_
            rotate_left
            ·intro w'
             go_simp
             with_reducible rfl
            rotate_left
            ·exact mP
            refine take_ (i := 1) (N := some 80) (v := ?_) (a' := ?_) #[true, true, false, false, false] rfl rfl (by kernel_rfl) (fun _ _ _ h => h) (Or.inl ⟨by rfl, ?_⟩) hHeld ?_ ?_
            rotate_left
            ·rintro w' ⟨s0, s1, s2, s3, s4, s5⟩
             go_simp
             with_reducible rfl
            rotate_left
            ·exact mP
            refine take_ (i := 2) (N := some 81) (v := ?_) (a' := ?_) #[true, true, true, false, false] rfl rfl (by kernel_rfl) (fun _ _ _ h => h) (Or.inl ⟨by rfl, ?_⟩) hHeld ?_ ?_
            rotate_left
            ·rintro w' ⟨s0, s1, s2, s3, s4, s5⟩
             go_simp
             with_reducible rfl
            rotate_left
            ·exact mP
            refine one_ (i := 3) (N := some 82) #[true, true, true, true, false] rfl rfl (by kernel_rfl) (by decide) (fun K hK => ?_)
            refine goes_ Try.func37 (by kernel_rfl) rfl #[.agg #[.slice A0_0 l0_0.length c0_0]] (by rfl) rfl rfl mS ?_
            with_reducible refine (store_area.calls _ _ l0_0 t141 _ ?side1 ?side2 A79.out).mono ?_
            (case side1 => exact mC ((Kd.V_reads' HO_129000.out).2.2))
            (case side2 => exact (Kd.V_reads' HO_129000.out).2.1)
            rintro e w120 ⟨rfl, hb⟩
            refine ⟨_, rfl, ?_⟩
            have n0_ := aA (Kd.R_below (mR HO_13.out) hb)
            have n1_ := aA (Kd.V_below (by (with_reducible repeat (first | apply Kd.V_alloc | apply Kd.V_drewN | apply Kd.V_drew)); exact HO_129000.out) hb)
            have n2_ := aA (Kd.V_below (by (with_reducible repeat (first | apply Kd.V_alloc | apply Kd.V_drewN | apply Kd.V_drew)); exact HO_132000.out) hb)
            have n3_ := aA (bB BK128.out hb)
            have n4_ := aA (bB BK129.out hb)
            have n5_ := aA (bB BK131.out hb)
            have n6_ := aA (below_step (mD3 GE128.out GE129.out GE131.out) hb)
            clear HO_13
            clear HO_129000
            clear HO_132000
            clear BK128
            clear BK129
            clear BK131
            clear HB
            have HO_13 := n0_
            have HO_129000 := n1_
            have HO_132000 := n2_
            have BK128 := n3_
            have BK129 := n4_
            have BK131 := n5_
            have HB := n6_
            clear n0_ n1_ n2_ n3_ n4_ n5_ n6_
            (try clear hb)
            (try clear hb2)
            (try clear hk)
            (try clear hi)
            refine hK.out _ _ ⟨(blk_cell BK131.out 0).trans rfl, (blk_cell BK131.out 1).trans rfl, (blk_cell BK131.out 2).trans rfl, (blk_cell BK131.out 3).trans rfl, (blk_cell BK131.out 4).trans rfl, (blk_cell BK128.out 0).trans rfl⟩ (fun hHeld => ?_)
            clear hK K
            refine norm_ (a' := ?_) ?_ ?_
            rotate_left
            ·show Act.put _ (some 82) _ = _
             simp only [Act.put, List.setIfInBounds_toArray, List.set_cons_zero, List.set_cons_succ, i64_w, i32_w]
             rfl
            refine pure_ (i := 4) (N := some 83) (v := ?_) (a' := ?_) #[true, true, true, true, true] rfl rfl (by kernel_rfl) (fun _ _ _ h => h) (Or.inl ⟨by rfl, ?_⟩) ?_ ?_
            rotate_left
            ·intro w'
             go_simp
             with_reducible rfl
            rotate_left
            ·exact mP
            refine done_ (by kernel_rfl) ?_
            try go_wp2
            have n0_ := aA (Kd.R_drew HO_13.out)
            have n1_ := aA (Kd.V_drew HO_129000.out)
            have n2_ := aA (Kd.V_drew HO_132000.out)
            have n3_ := aA (blk_drew BK128.out)
            have n4_ := aA (blk_drew BK129.out)
            have n5_ := aA (blk_drew BK131.out)
            have n6_ := aA (below_drew1 HB.out)
            clear HO_13
            clear HO_129000
            clear HO_132000
            clear BK128
            clear BK129
            clear BK131
            clear HB
            have HO_13 := n0_
            have HO_129000 := n1_
            have HO_132000 := n2_
            have BK128 := n3_
            have BK129 := n4_
            have BK131 := n5_
            have HB := n6_
            clear n0_ n1_ n2_ n3_ n4_ n5_ n6_
            have p143 : 0 ≤ (t142 : Int) := of_decide_eq_true (by first | (with_reducible assumption) | assumption)
            have q143 : t142 < (l0_0.length : Int) := of_decide_eq_true (by first | (with_reducible assumption) | assumption)
            obtain ⟨ad143, e143, hx143_0⟩ := Kd.at_string (Kd.V_reads' HO_129000.out).2.2 t142 p143 q143
            cases e143
            replace p143 := eq_true p143
            replace q143 := eq_true q143
            refine start_ (n := 20) (S := fun w' => w'.cell? ⟨gb128, 0, none⟩ = some (.slice (some ad143) l0_0.length c0_0) ∧ w'.cell? ⟨gb131, 0, none⟩ = some (.slice (some ad143) l0_0.length c0_0) ∧ w'.cell? ⟨gb131, 1, none⟩ = some (.int .i64 x132001_1) ∧ w'.cell? ⟨gb131, 2, none⟩ = some (.int .i64 x132002_2) ∧ w'.cell? ⟨gb131, 3, none⟩ = some (.int .i64 x132003_1) ∧ w'.cell? ⟨gb131, 4, none⟩ = some (.bool false) ∧ w'.cell? (ad143.add (t142).toNat) = some (.string (rdOf ByteArray.empty l0_0 t142))) (ds := []) (bA 20 0) (by kernel_rfl) rfl rfl ⟨(blk_cell BK128.out 0).trans rfl, (blk_cell BK131.out 0).trans rfl, (blk_cell BK131.out 1).trans rfl, (blk_cell BK131.out 2).trans rfl, (blk_cell BK131.out 3).trans rfl, (blk_cell BK131.out 4).trans rfl, hx143_0⟩ (fun hHeld => ?_); refine with_tabW store_Boot.tab18 store_Boot.bits18 (fun HT_ HW_ => ?_)
            generalize w120.drew = w121 at HO_13 HO_129000 HO_132000 BK128 BK129 BK131 HB hx143_0 hHeld ⊢
            refine pure_ (i := 0) (N := some 85) (v := ?_) (a' := ?_) (bA 20 1) rfl rfl (any_of HT_.out (by kernel_rfl)) (fun _ _ _ h => h) (Or.inl ⟨by rfl, ?_⟩) ?_ ?_
            rotate_left
            ·intro w'
             go_simp
             with_reducible rfl
            rotate_left
            ·exact mP
            refine pure_ (i := 3) (N := some 88) (v := ?_) (a' := ?_) (bA 20 9) rfl rfl (any_of HT_.out (by kernel_rfl)) (fun _ _ _ h => h) (Or.inl ⟨by rfl, ?_⟩) ?_ ?_
            rotate_left
            ·intro w'
             go_simp
             with_reducible rfl
            rotate_left
            ·exact mP
            refine pure_ (i := 5) (N := some 90) (v := ?_) (a' := ?_) (bA 20 41) rfl rfl (any_of HT_.out (by kernel_rfl)) (fun _ _ _ h => h) (Or.inl ⟨by rfl, ?_⟩) ?_ ?_
            rotate_left
            ·intro w'
             go_simp
             with_reducible rfl
            rotate_left
            ·exact mP
            refine take_ (i := 1) (N := some 86) (v := ?_) (a' := ?_) (bA 20 43) rfl rfl (take_ofW HT_.out HW_.out (by kernel_rfl)) (fun _ _ _ h => h) (Or.inl ⟨by rfl, ?_⟩) hHeld ?_ ?_
            rotate_left
            ·rintro w' ⟨s0, s1, s2, s3, s4, s5, s6⟩
             go_simp
             with_reducible rfl
            rotate_left
            ·exact mP
            refine take_ (i := 2) (N := some 87) (v := ?_) (a' := ?_) (bA 20 47) rfl rfl (take_ofW HT_.out HW_.out (by kernel_rfl)) (fun _ _ _ h => h) (Or.inl ⟨by rfl, ?_⟩) hHeld ?_ ?_
            rotate_left
            ·rintro w' ⟨s0, s1, s2, s3, s4, s5, s6⟩
             go_simp
             with_reducible rfl
            rotate_left
            ·exact mP
            refine take_ (i := 4) (N := some 89) (v := ?_) (a' := ?_) (bA 20 63) rfl rfl (take_ofW HT_.out HW_.out (by kernel_rfl)) (fun _ _ _ h => h) (Or.inl ⟨by rfl, ?_⟩) hHeld ?_ ?_
            rotate_left
            ·rintro w' ⟨s0, s1, s2, s3, s4, s5, s6⟩
             go_simp
             with_reducible rfl
            rotate_left
            ·exact mP
            refine take_ (i := 6) (N := some 91) (v := ?_) (a' := ?_) (bA 20 127) rfl rfl (take_ofW HT_.out HW_.out (by kernel_rfl)) (fun _ _ _ h => h) (Or.inl ⟨by rfl, ?_⟩) hHeld ?_ ?_
            rotate_left
            ·rintro w' ⟨s0, s1, s2, s3, s4, s5, s6⟩
             go_simp
             with_reducible rfl
            rotate_left
            ·exact mP
            refine one_ (i := 7) (N := some 92) (bA 20 255) rfl rfl (one_of HT_.out (by kernel_rfl)) (by decide) (fun K hK => ?_)
            refine goes_ Try.func38 (by kernel_rfl) rfl #[.agg #[.slice (some ad143) l0_0.length c0_0], .int .i64 x132001_1, .int .i64 x132002_2] (by rfl) rfl rfl mS ?_
            with_reducible refine (store_place.calls _ _ l0_0 x132001_1 x132002_2 t142 _ ?side1 ?side2 A81.out).mono ?_
            (case side1 => exact mC ((Kd.V_reads' HO_129000.out).2.2))
            (case side2 => exact (Kd.V_reads' HO_129000.out).2.1)
            rintro e w122 ⟨rfl, hb⟩
            have HS6_ := (hb.cell (World.block_lt_of_cell? _ _ (hHeld.2.2.2.2.2.2))).trans (hHeld.2.2.2.2.2.2)
            refine ⟨_, rfl, ?_⟩
            have n0_ := aA (Kd.R_below (mR HO_13.out) hb)
            have n1_ := aA (Kd.V_below (by (with_reducible repeat (first | apply Kd.V_alloc | apply Kd.V_drewN | apply Kd.V_drew)); exact HO_129000.out) hb)
            have n2_ := aA (Kd.V_below (by (with_reducible repeat (first | apply Kd.V_alloc | apply Kd.V_drewN | apply Kd.V_drew)); exact HO_132000.out) hb)
            have n3_ := aA (bB BK128.out hb)
            have n4_ := aA (bB BK129.out hb)
            have n5_ := aA (bB BK131.out hb)
            have n6_ := aA (below_step (mD3 GE128.out GE129.out GE131.out) hb)
            clear HO_13
            clear HO_129000
            clear HO_132000
            clear BK128
            clear BK129
            clear BK131
            clear HB
            have HO_13 := n0_
            have HO_129000 := n1_
            have HO_132000 := n2_
            have BK128 := n3_
            have BK129 := n4_
            have BK131 := n5_
            have HB := n6_
            clear n0_ n1_ n2_ n3_ n4_ n5_ n6_
            (try clear hb)
            (try clear hb2)
            (try clear hk)
            (try clear hi)
            refine hK.out _ _ ⟨(blk_cell BK128.out 0).trans rfl, (blk_cell BK131.out 0).trans rfl, (blk_cell BK131.out 1).trans rfl, (blk_cell BK131.out 2).trans rfl, (blk_cell BK131.out 3).trans rfl, (blk_cell BK131.out 4).trans rfl, HS6_⟩ (fun hHeld => ?_)
            clear hK K
            refine norm_ (a' := ?_) ?_ ?_
            rotate_left
            ·show Act.put _ (some 92) _ = _
             simp only [Act.put, List.setIfInBounds_toArray, List.set_cons_zero, List.set_cons_succ, i64_w, i32_w]
             rfl
            refine pure_ (i := 8) (N := some 93) (v := ?_) (a' := ?_) (bA 20 511) rfl rfl (any_of HT_.out (by kernel_rfl)) (fun _ _ _ h => h) (Or.inl ⟨by rfl, ?_⟩) ?_ ?_
            rotate_left
            ·intro w'
             go_simp
             with_reducible rfl
            rotate_left
            ·exact mP
            refine take_ (i := 9) (N := some 94) (v := ?_) (a' := ?_) (bA 20 1023) rfl rfl (take_ofW HT_.out HW_.out (by kernel_rfl)) (fun _ _ _ h => h) (Or.inl ⟨by rfl, ?_⟩) hHeld ?_ ?_
            rotate_left
            ·rintro w' ⟨s0, s1, s2, s3, s4, s5, s6⟩
             go_simp
             with_reducible rfl
            rotate_left
            ·exact mP
            refine one_ (i := 10) (N := some 95) (bA 20 2047) rfl rfl (one_of HT_.out (by kernel_rfl)) (by decide) (fun K hK => ?_)
            refine goes_ Try.func36 (by kernel_rfl) rfl #[.string (rdOf ByteArray.empty l0_0 t142)] (by rfl) rfl rfl mS ?_
            with_reducible refine (seal_Open.calls (rdOf ByteArray.empty l0_0 t142) t144 t145 t146 t147 _ A84.out).mono ?_
            rintro e w123 ⟨rfl, hb⟩
            have HS6_ := (hb.cell (World.block_lt_of_cell? _ _ (hHeld.2.2.2.2.2.2))).trans (hHeld.2.2.2.2.2.2)
            refine ⟨_, rfl, ?_⟩
            have n0_ := aA (Kd.R_below (mR HO_13.out) hb)
            have n1_ := aA (Kd.V_below (by (with_reducible repeat (first | apply Kd.V_alloc | apply Kd.V_drewN | apply Kd.V_drew)); exact HO_129000.out) hb)
            have n2_ := aA (Kd.V_below (by (with_reducible repeat (first | apply Kd.V_alloc | apply Kd.V_drewN | apply Kd.V_drew)); exact HO_132000.out) hb)
            have n3_ := aA (bB BK128.out hb)
            have n4_ := aA (bB BK129.out hb)
            have n5_ := aA (bB BK131.out hb)
            have n6_ := aA (below_step (mD3 GE128.out GE129.out GE131.out) hb)
            clear HO_13
            clear HO_129000
            clear HO_132000
            clear BK128
            clear BK129
            clear BK131
            clear HB
            have HO_13 := n0_
            have HO_129000 := n1_
            have HO_132000 := n2_
            have BK128 := n3_
            have BK129 := n4_
            have BK131 := n5_
            have HB := n6_
            clear n0_ n1_ n2_ n3_ n4_ n5_ n6_
            (try clear hb)
            (try clear hb2)
            (try clear hk)
            (try clear hi)
            refine hK.out _ _ ⟨(blk_cell BK128.out 0).trans rfl, (blk_cell BK131.out 0).trans rfl, (blk_cell BK131.out 1).trans rfl, (blk_cell BK131.out 2).trans rfl, (blk_cell BK131.out 3).trans rfl, (blk_cell BK131.out 4).trans rfl, HS6_⟩ (fun hHeld => ?_)
            clear hK K
            refine norm_ (a' := ?_) ?_ ?_
            rotate_left
            ·show Act.put _ (some 95) _ = _
             simp only [Act.put, List.setIfInBounds_toArray, List.set_cons_zero, List.set_cons_succ, i64_w, i32_w]
             rfl
            refine pure_ (i := 11) (N := some 84) (v := ?_) (a' := ?_) (bA 20 4095) rfl rfl (any_of HT_.out (by kernel_rfl)) (fun _ _ _ h => h) (Or.inl ⟨by rfl, ?_⟩) ?_ ?_
            rotate_left
            ·intro w'
             go_simp
             with_reducible rfl
            rotate_left
            ·exact mP
            refine pure_ (i := 12) (N := some 96) (v := ?_) (a' := ?_) (bA 20 8191) rfl rfl (any_of HT_.out (by kernel_rfl)) (fun _ _ _ h => h) (Or.inl ⟨by rfl, ?_⟩) ?_ ?_
            rotate_left
            ·intro w'
             go_simp
             with_reducible rfl
            rotate_left
            ·exact mP
            refine pure_ (i := 13) (N := some 97) (v := ?_) (a' := ?_) (bA 20 16383) rfl rfl (any_of HT_.out (by kernel_rfl)) (fun _ _ _ h => h) (Or.inl ⟨by rfl, ?_⟩) ?_ ?_
            rotate_left
            ·intro w'
             go_simp
             with_reducible rfl
            rotate_left
            ·exact mP
            refine pure_ (i := 14) (N := some 98) (v := ?_) (a' := ?_) (bA 20 32767) rfl rfl (any_of HT_.out (by kernel_rfl)) (fun _ _ _ h => h) (Or.inl ⟨by rfl, ?_⟩) ?_ ?_
            rotate_left
            ·intro w'
             go_simp
             with_reducible rfl
            rotate_left
            ·exact mP
            refine pure_ (i := 15) (N := some 99) (v := ?_) (a' := ?_) (bA 20 65535) rfl rfl (any_of HT_.out (by kernel_rfl)) (fun _ _ _ h => h) (Or.inl ⟨by rfl, ?_⟩) ?_ ?_
            rotate_left
            ·intro w'
             go_simp
             with_reducible rfl
            rotate_left
            ·exact mP
            refine pure_ (i := 16) (N := some 14) (v := ?_) (a' := ?_) (bA 20 131071) rfl rfl (any_of HT_.out (by kernel_rfl)) (fun _ _ _ h => h) (Or.inl ⟨by rfl, ?_⟩) ?_ ?_
            rotate_left
            ·intro w'
             go_simp
             with_reducible rfl
            rotate_left
            ·exact mP
            refine pure_ (i := 17) (N := some 15) (v := ?_) (a' := ?_) (bA 20 262143) rfl rfl (any_of HT_.out (by kernel_rfl)) (fun _ _ _ h => h) (Or.inl ⟨by rfl, ?_⟩) ?_ ?_
            rotate_left
            ·intro w'
             go_simp
             with_reducible rfl
            rotate_left
            ·exact mP
            refine pure_ (i := 18) (N := some 16) (v := ?_) (a' := ?_) (bA 20 524287) rfl rfl (any_of HT_.out (by kernel_rfl)) (fun _ _ _ h => h) (Or.inl ⟨by rfl, ?_⟩) ?_ ?_
            rotate_left
            ·intro w'
             go_simp
             with_reducible rfl
            rotate_left
            ·exact mP
            refine pure_ (i := 19) (N := some 17) (v := ?_) (a' := ?_) (bA 20 1048575) rfl rfl (any_of HT_.out (by kernel_rfl)) (fun _ _ _ h => h) (Or.inl ⟨by rfl, ?_⟩) ?_ ?_
            rotate_left
            ·intro w'
             go_simp
             with_reducible rfl
            rotate_left
            ·exact mP
            refine done_ (done_of HT_.out (by kernel_rfl)) ?_
            have hnb124 := NB131_128.out
            have hnc124 := NB128_131.out
            have hnb125 := NB131_129.out
            have hnc125 := NB129_131.out
            obtain ⟨hcz126_0, hcz126_1, hcz126_2, hcz126_3, hcz126_4⟩ := bC5 BK131.out
            obtain ⟨hfz126_0, hfz126_1, hfz126_2, hfz126_3, hfz126_4⟩ := bF5 BK131.out
            have hnb127 := NB129_128.out
            have hnc127 := NB128_129.out
            obtain ⟨hcz128_0, hcz128_1, hcz128_2, hcz128_3, hcz128_4⟩ := bC5 BK129.out
            obtain ⟨hfz128_0, hfz128_1, hfz128_2, hfz128_3, hfz128_4⟩ := bF5 BK129.out
            try go_wp2
            refine bodyPost_ret (results_ctt rfl _ _ gb129 26 #[.slice (some ad143) l0_0.length c0_0, .int .i64 x132001_1, .int .i64 x132002_2, .int .i64 x132003_1, .bool false] (0, 0) _ rfl (by (with_reducible repeat (first | refine blk_drewN ?_ _ | refine blk_drew ?_ | refine blk_alloc ?_ _)); have h_ := BK129.out; exact pK 4 (pK 3 (pK 2 (pK 1 (pK 0 (h_)))))) Try.underlying26 rfl (by kernel_rfl)) rfl ?_
            exact ⟨_, _, by first | rfl | (simp [errW_none, errW_some] <;> rfl) | (simp [*, errW_none, errW_some] <;> rfl), by (with_reducible repeat (first | apply Kd.V_alloc | apply Kd.V_drewN | apply Kd.V_drew)); exact Kd.V_mono (Kd.V_far (p := ⟨gb129, 4, none⟩) (Kd.V_far (p := ⟨gb129, 3, none⟩) (Kd.V_far (p := ⟨gb129, 2, none⟩) (Kd.V_far (p := ⟨gb129, 1, none⟩) (Kd.V_far (p := ⟨gb129, 0, none⟩) (Kd.V_mono HO_132000.out (fun k_ hk => (⟨hk, hk.2.2.2.1⟩ : _ ∧ k_ ≠ gb129))) (fun _ hk => hk.2) (.slice (some ad143) l0_0.length c0_0)) (fun _ hk => hk.2) (.int .i64 x132001_1)) (fun _ hk => hk.2) (.int .i64 x132002_2)) (fun _ hk => hk.2) (.int .i64 x132003_1)) (fun _ hk => hk.2) (.bool false)) (fun _ hk => ⟨hk.1.1, hk.1.2.1⟩), by (with_reducible repeat (first | apply Kd.R_alloc | apply Kd.R_drewN | apply Kd.R_drew)); exact Kd.R_mono (rF 4 (rF 3 (rF 2 (rF 1 (rF 0 (Kd.R_types HO_13.out BK129.out (by decide))))))) (fun _ hk => hk.1), by repeat (first | (with_reducible first | exact HB.out | apply below_alloc | apply pw_below_drewN | apply below_drew1 | refine below_set ?_ GE128.out | refine below_set ?_ GE129.out | refine below_set ?_ GE131.out) | exact HB.out)⟩
          ·rw [if_neg c83] at H
           exact absurd H (by simp)
         ·rw [if_neg c82] at H
          exact absurd H (by simp)
        ·rw [if_neg c80] at H
         have c80b0 : decide (x132002_2 < t141) = false := decide_eq_false c80
         clear c80
         simp only [Option.some.injEq, Prod.mk.injEq] at H
         obtain ⟨rfl, rfl, rfl, rfl, rfl, rfl, rfl⟩ := H
         try go_wp2
         have n0_ := aA (Kd.R_drew HO_13.out)
         have n1_ := aA (Kd.V_drew HO_129000.out)
         have n2_ := aA (Kd.V_drew HO_132000.out)
         have n3_ := aA (blk_drew BK128.out)
         have n4_ := aA (blk_drew BK129.out)
         have n5_ := aA (blk_drew BK131.out)
         have n6_ := aA (below_drew1 HB.out)
         clear HO_13
         clear HO_129000
         clear HO_132000
         clear BK128
         clear BK129
         clear BK131
         clear HB
         have HO_13 := n0_
         have HO_129000 := n1_
         have HO_132000 := n2_
         have BK128 := n3_
         have BK129 := n4_
         have BK131 := n5_
         have HB := n6_
         clear n0_ n1_ n2_ n3_ n4_ n5_ n6_
         refine start_ (n := 5) (S := fun w' => w'.cell? ⟨gb131, 0, none⟩ = some (.slice A0_0 l0_0.length c0_0) ∧ w'.cell? ⟨gb131, 1, none⟩ = some (.int .i64 x132001_1) ∧ w'.cell? ⟨gb131, 2, none⟩ = some (.int .i64 x132002_2) ∧ w'.cell? ⟨gb131, 3, none⟩ = some (.int .i64 x132003_1) ∧ w'.cell? ⟨gb131, 4, none⟩ = some (.bool false) ∧ w'.cell? ⟨gb128, 0, none⟩ = some (.slice A0_0 l0_0.length c0_0)) (ds := []) #[false, false, false, false, false] (by kernel_rfl) rfl rfl ⟨(blk_cell BK131.out 0).trans rfl, (blk_cell BK131.out 1).trans rfl, (blk_cell BK131.out 2).trans rfl, (blk_cell BK131.out 3).trans rfl, (blk_cell BK131.out 4).trans rfl, (blk_cell BK128.out 0).trans rfl⟩ (fun hHeld => ?_)
         generalize wr.drew = w129 at HO_13 HO_129000 HO_132000 BK128 BK129 BK131 HB hHeld ⊢
         refine pure_ (i := 0) (N := some 79) (v := ?_) (a' := ?_) #[true, false, false, false, false] rfl rfl (by kernel_rfl) (fun _ _ _ h => h) (Or.inl ⟨by rfl, ?_⟩) ?_ ?_
         rotate_left
         ·intro w'
          go_simp
          with_reducible rfl
         rotate_left
         ·exact mP
         refine take_ (i := 1) (N := some 80) (v := ?_) (a' := ?_) #[true, true, false, false, false] rfl rfl (by kernel_rfl) (fun _ _ _ h => h) (Or.inl ⟨by rfl, ?_⟩) hHeld ?_ ?_
         rotate_left
         ·rintro w' ⟨s0, s1, s2, s3, s4, s5⟩
          go_simp
          with_reducible rfl
         rotate_left
         ·exact mP
         refine take_ (i := 2) (N := some 81) (v := ?_) (a' := ?_) #[true, true, true, false, false] rfl rfl (by kernel_rfl) (fun _ _ _ h => h) (Or.inl ⟨by rfl, ?_⟩) hHeld ?_ ?_
         rotate_left
         ·rintro w' ⟨s0, s1, s2, s3, s4, s5⟩
          go_simp
          with_reducible rfl
         rotate_left
         ·exact mP
         refine one_ (i := 3) (N := some 82) #[true, true, true, true, false] rfl rfl (by kernel_rfl) (by decide) (fun K hK => ?_)
         refine goes_ Try.func37 (by kernel_rfl) rfl #[.agg #[.slice A0_0 l0_0.length c0_0]] (by rfl) rfl rfl mS ?_
         with_reducible refine (store_area.calls _ _ l0_0 t141 _ ?side1 ?side2 A79.out).mono ?_
         (case side1 => exact mC ((Kd.V_reads' HO_129000.out).2.2))
         (case side2 => exact (Kd.V_reads' HO_129000.out).2.1)
         rintro e w130 ⟨rfl, hb⟩
         refine ⟨_, rfl, ?_⟩
         have n0_ := aA (Kd.R_below (mR HO_13.out) hb)
         have n1_ := aA (Kd.V_below (by (with_reducible repeat (first | apply Kd.V_alloc | apply Kd.V_drewN | apply Kd.V_drew)); exact HO_129000.out) hb)
         have n2_ := aA (Kd.V_below (by (with_reducible repeat (first | apply Kd.V_alloc | apply Kd.V_drewN | apply Kd.V_drew)); exact HO_132000.out) hb)
         have n3_ := aA (bB BK128.out hb)
         have n4_ := aA (bB BK129.out hb)
         have n5_ := aA (bB BK131.out hb)
         have n6_ := aA (below_step (mD3 GE128.out GE129.out GE131.out) hb)
         clear HO_13
         clear HO_129000
         clear HO_132000
         clear BK128
         clear BK129
         clear BK131
         clear HB
         have HO_13 := n0_
         have HO_129000 := n1_
         have HO_132000 := n2_
         have BK128 := n3_
         have BK129 := n4_
         have BK131 := n5_
         have HB := n6_
         clear n0_ n1_ n2_ n3_ n4_ n5_ n6_
         (try clear hb)
         (try clear hb2)
         (try clear hk)
         (try clear hi)
         refine hK.out _ _ ⟨(blk_cell BK131.out 0).trans rfl, (blk_cell BK131.out 1).trans rfl, (blk_cell BK131.out 2).trans rfl, (blk_cell BK131.out 3).trans rfl, (blk_cell BK131.out 4).trans rfl, (blk_cell BK128.out 0).trans rfl⟩ (fun hHeld => ?_)
         clear hK K
         refine norm_ (a' := ?_) ?_ ?_
         rotate_left
         ·show Act.put _ (some 82) _ = _
          simp only [Act.put, List.setIfInBounds_toArray, List.set_cons_zero, List.set_cons_succ, i64_w, i32_w]
          rfl
         refine pure_ (i := 4) (N := some 83) (v := ?_) (a' := ?_) #[true, true, true, true, true] rfl rfl (by kernel_rfl) (fun _ _ _ h => h) (Or.inl ⟨by rfl, ?_⟩) ?_ ?_
         rotate_left
         ·intro w'
          go_simp
          with_reducible rfl
         rotate_left
         ·exact mP
         refine done_ (by kernel_rfl) ?_
         have hnb131 := NB131_128.out
         have hnc131 := NB128_131.out
         have hnb132 := NB131_129.out
         have hnc132 := NB129_131.out
         obtain ⟨hcz133_0, hcz133_1, hcz133_2, hcz133_3, hcz133_4⟩ := bC5 BK131.out
         obtain ⟨hfz133_0, hfz133_1, hfz133_2, hfz133_3, hfz133_4⟩ := bF5 BK131.out
         have hnb134 := NB129_128.out
         have hnc134 := NB128_129.out
         obtain ⟨hcz135_0, hcz135_1, hcz135_2, hcz135_3, hcz135_4⟩ := bC5 BK129.out
         obtain ⟨hfz135_0, hfz135_1, hfz135_2, hfz135_3, hfz135_4⟩ := bF5 BK129.out
         try go_wp2
         refine bodyPost_ret (results_ctt rfl _ _ gb129 26 #[.slice A0_0 l0_0.length c0_0, .int .i64 x132001_1, .int .i64 x132002_2, .int .i64 x132003_1, .bool false] (0, 0) _ rfl (by (with_reducible repeat (first | refine blk_drewN ?_ _ | refine blk_drew ?_ | refine blk_alloc ?_ _)); have h_ := BK129.out; exact pK 4 (pK 3 (pK 2 (pK 1 (pK 0 (h_)))))) Try.underlying26 rfl (by kernel_rfl)) rfl ?_
         exact ⟨_, _, by first | rfl | (simp [errW_none, errW_some] <;> rfl) | (simp [*, errW_none, errW_some] <;> rfl), by (with_reducible repeat (first | apply Kd.V_alloc | apply Kd.V_drewN | apply Kd.V_drew)); exact Kd.V_mono (Kd.V_far (p := ⟨gb129, 4, none⟩) (Kd.V_far (p := ⟨gb129, 3, none⟩) (Kd.V_far (p := ⟨gb129, 2, none⟩) (Kd.V_far (p := ⟨gb129, 1, none⟩) (Kd.V_far (p := ⟨gb129, 0, none⟩) (Kd.V_mono HO_132000.out (fun k_ hk => (⟨hk, hk.2.2.2.1⟩ : _ ∧ k_ ≠ gb129))) (fun _ hk => hk.2) (.slice A0_0 l0_0.length c0_0)) (fun _ hk => hk.2) (.int .i64 x132001_1)) (fun _ hk => hk.2) (.int .i64 x132002_2)) (fun _ hk => hk.2) (.int .i64 x132003_1)) (fun _ hk => hk.2) (.bool false)) (fun _ hk => ⟨hk.1.1, hk.1.2.1⟩), by (with_reducible repeat (first | apply Kd.R_alloc | apply Kd.R_drewN | apply Kd.R_drew)); exact Kd.R_mono (rF 4 (rF 3 (rF 2 (rF 1 (rF 0 (Kd.R_types HO_13.out BK129.out (by decide))))))) (fun _ hk => hk.1), by repeat (first | (with_reducible first | exact HB.out | apply below_alloc | apply pw_below_drewN | apply below_drew1 | refine below_set ?_ GE128.out | refine below_set ?_ GE129.out | refine below_set ?_ GE131.out) | exact HB.out)⟩
 ·replace c3 := Bool.eq_false_iff.mpr c3
  subst c3
  have H1 : (some (([] : List ByteArray), 0, 0, 0, false, ([] : List ByteArray), 1)) = some (r1, r2, r3, r4, r5, r6, r7) := by rw [if_neg (show ¬ (false = true) by decide)] at H; exact H
  clear H
  have H := H1
  clear H1
  simp only [Option.some.injEq, Prod.mk.injEq] at H
  obtain ⟨rfl, rfl, rfl, rfl, rfl, rfl, rfl⟩ := H
  go_enter Try.func12, Try.ntmps12
  go_wp2_with (first | ((with_reducible refine gate_dst (N := 1) rfl ?_); refine box_event ?hg (N := 1) ?hd (cs := #[.slice A0_0 l0_0.length c0_0]) (t := 24) ?hr ?_; (case hd => rfl); (case hg => rfl); (case hr => first | (go_simp; done) | (go_simp; rfl)); intro gb128 hg w136 hbox hb; have n0_ := aA (Kd.V_below (Kd.V_elderB (by (with_reducible repeat (first | apply Kd.V_alloc | apply Kd.V_drewN | apply Kd.V_drew)); exact HO0_0.out) gb128 (Nat.le_of_eq hg.symm)) hb); have n1_ := aA (below_step mB hb); have n2_ := aA (hbox); have n3_ := aA ((bZ hg mB)); have n4_ := aA ((bZ hg mB)); clear HO0_0 HB; have HO0_0 := n0_; have HB := n1_; have BK128 := n2_; have GW128 := n3_; have GE128 := n4_; clear n0_ n1_ n2_ n3_ n4_ hb hbox hg) | ((with_reducible refine gate_dst (N := 2) rfl ?_); refine box_event ?hg (N := 2) ?hd (cs := #[.slice none 0 0, .int .i64 0, .int .i64 0, .int .i64 0, .bool false]) (t := 26) ?hr ?_; (case hd => rfl); (case hg => rfl); (case hr => first | (go_simp; done) | (go_simp; rfl)); intro gb129 hg w137 hbox hb; have n0_ := aA (Kd.V_below (Kd.V_elderB (by (with_reducible repeat (first | apply Kd.V_alloc | apply Kd.V_drewN | apply Kd.V_drew)); exact HO0_0.out) gb129 (Nat.le_of_eq hg.symm)) hb); have n1_ := aA (bB BK128.out hb); have n2_ := aA (below_step (mD1 GE128.out) hb); have n3_ := aA (hbox); have n4_ := aA ((bZ hg (mD1 GE128.out))); have n5_ := aA ((bZ hg (mD1 GE128.out))); have n6_ := aA ((bL hg BK128.out)); have n7_ := aA ((bG hg BK128.out)); clear HO0_0 BK128 HB; have HO0_0 := n0_; have BK128 := n1_; have HB := n2_; have BK129 := n3_; have GW129 := n4_; have GE129 := n5_; have NB128_129 := n6_; have NB129_128 := n7_; clear n0_ n1_ n2_ n3_ n4_ n5_ n6_ n7_ hb hbox hg; have hnb138 := NB128_129.out; have hnc138 := NB129_128.out; have hcz139_0 : w137.cell? ⟨gb128, 0, none⟩ = some (.slice A0_0 l0_0.length c0_0) := (blk_cell BK128.out 0).trans rfl; have hfz139_0 := blk_frozen BK128.out 0) | ((with_reducible refine gate_callee (f := 35) rfl ?_); refine goesL_ (some 19) rfl rfl Try.func35 (by kernel_rfl) rfl #[.agg #[.slice A0_0 l0_0.length c0_0]] rfl mS ?_; (with_reducible refine (store_hasLog.calls _ _ l0_0 false _ ?side1 ?side2 A2.out).mono ?_); (case side1 => exact mC ((Kd.V_reads' HO0_0.out).2.2)); (case side2 => exact (Kd.V_reads' HO0_0.out).2.1); rintro e w140 ⟨rfl, hb⟩; refine ⟨_, rfl, ?_⟩; have n0_ := aA (Kd.V_below (by (with_reducible repeat (first | apply Kd.V_alloc | apply Kd.V_drewN | apply Kd.V_drew)); exact HO0_0.out) hb); have n1_ := aA (bB BK128.out hb); have n2_ := aA (bB BK129.out hb); have n3_ := aA (below_step (mD2 GE128.out GE129.out) hb); clear HO0_0 BK128 BK129 HB; have HO0_0 := n0_; have BK128 := n1_; have BK129 := n2_; have HB := n3_; clear n0_ n1_ n2_ n3_; (try clear hb); (try clear hb2); (try clear hk); (try clear hi); obtain ⟨hcz141_0, hcz141_1, hcz141_2, hcz141_3, hcz141_4⟩ := bC5 BK129.out; obtain ⟨hfz141_0, hfz141_1, hfz141_2, hfz141_3, hfz141_4⟩ := bF5 BK129.out))
  refine bodyPost_ret (results_ctt rfl _ _ gb129 26 #[.slice none 0 0, .int .i64 0, .int .i64 0, .int .i64 0, .bool false] (0, 0) _ rfl (by (with_reducible repeat (first | refine blk_drewN ?_ _ | refine blk_drew ?_ | refine blk_alloc ?_ _)); have h_ := BK129.out; exact pK 4 (pK 3 (pK 2 (pK 1 (pK 0 (h_)))))) Try.underlying26 rfl (by kernel_rfl)) rfl ?_
  exact ⟨_, _, by first | rfl | (simp [errW_none, errW_some] <;> rfl) | (simp [*, errW_none, errW_some] <;> rfl), Kd.V_nil _ _ _ _ _, by first | exact Kd.R_nil _ _ _ _ _ | exact Kd.N_nil _ _ _ _ _ | exact Kd.V_nil _ _ _ _ _ | exact Kd.Q_nil _ _ _ _ _ | exact Kd.S_nil _ _ _ _ _, by repeat (first | (with_reducible first | exact HB.out | apply below_alloc | apply pw_below_drewN | apply below_drew1 | refine below_set ?_ GE128.out | refine below_set ?_ GE129.out) | exact HB.out)⟩
end Go.Proofs.YtopaddpclipnjaaQ.P
namespace Go.Proofs.Ytopaddpclipnjaa
open Go.RowKit
structure Flt where
  kind : Int
  k : Int
deriving DecidableEq
def fltC (x : Flt) : List Value := [.int .i64 x.kind, .int .i64 x.k]
def fltV (x : Flt) : Value := .agg #[.int .i64 x.kind, .int .i64 x.k]
def fltsC (xs : List Flt) : List Value := xs.flatMap fltC
theorem flts_get (xs : List Flt) (i : Nat) (h : i < xs.length) : (fltsC xs)[i * 2]? = some (.int .i64 xs[i].kind) ∧ (fltsC xs)[i * 2 + 1]? = some (.int .i64 xs[i].k) :=
  ⟨flat_get (en := fltC) (sz := 2) (fun _ => rfl) xs i 0 h (by omega), flat_get (en := fltC) (sz := 2) (fun _ => rfl) xs i 1 h (by omega)⟩
def fltB (x : Flt) : Bool := decide (0 ≤ x.kind) && decide (x.kind ≤ 2) && decide (0 ≤ x.k) && decide (x.k ≤ 128)
end Go.Proofs.Ytopaddpclipnjaa
namespace Go.Proofs.Ytopaddpclipnjaa
open Go.RowKit
attribute [local go_sem high] ext_size ext_cell ext_frozen alloc_cell alloc_frozen
def PredF (f : FuncId) (caps : Array Value) (w : World) (p : Flt → Bool) (xs : List Flt) : Prop :=
  ∀ x ∈ xs, ∀ W, Below w.heap.size w W → Calls Try.prog f (#[fltV x] ++ caps) W fun e W' => e = .returned (.bool (p x)) ∧ Below W.heap.size W W'
theorem indexFuncF (v : Value) (xs : List Flt) (f : FuncId) (caps : Array Value) (p : Flt → Bool) (w : World) (hS : SlAt w v 2 xs.length (fltsC xs)) (hp : PredF f caps w p xs) (hf : Enters Try.prog f) :
    Calls Try.prog 85 #[v, .func (.func f) #[] caps] w fun e w' => e = .returned (.int .i64 (idxOf p xs)) ∧ Below w.heap.size w w' := by
  obtain ⟨a, c, rfl, hnc, hcm⟩ := hS.form
  have hm := hS.le
  have HS := Lib.hid hS
  have HP := Lib.hid hp
  clear hS hp
  unfold maxLen at hm
  go_enter Try.func85, Try.ntmps85
  go_wp2
  go_loopw [5, 8] (fun _ i wr => ∃ k : Nat, k ≤ xs.length ∧ i = .int .i64 k ∧ (∀ j (hj : j < xs.length), j < k → p xs[j] = false) ∧ Below w.heap.size w wr) (fun _ i _ => xs.length - (intOf i).toNat)
  case atStart => exact ⟨0, Nat.zero_le _, rfl, fun j _ hj => absurd hj (by omega), Below.refl _ _⟩
  case round =>
    obtain ⟨k, hk, rfl, hno, hbel⟩ := hrel
    have HN := Lib.hid hno
    clear hno
    obtain ⟨xr, rfl⟩ := ext_of hbel
    by_cases hlt : k < xs.length
    · obtain ⟨b, o, rfl, hbl, hcell⟩ := HS.out.at (by omega)
      have hg := flts_get xs k hlt
      have hck0 : w.cell? ⟨b, o + k * 2, none⟩ = some (.int .i64 xs[k].kind) := by exact hcell _ _ hg.1
      have hck1 : w.cell? ⟨b, o + k * 2 + 1, none⟩ = some (.int .i64 xs[k].k) := by rw [Nat.add_assoc]; exact hcell _ _ hg.2
      clear hcell hg
      have hcall : Calls Try.prog f (#[Value.agg #[.int .i64 xs[k].kind, .int .i64 xs[k].k]] ++ caps) (ext w xr) fun e W' => e = .returned (.bool (p xs[k])) ∧ Below (ext w xr).heap.size (ext w xr) W' := HP.out xs[k] (List.getElem_mem hlt) (ext w xr) hbel
      have he := hf (#[Value.agg #[.int .i64 xs[k].kind, .int .i64 xs[k].k]] ++ caps) (ext w xr)
      cases hpx : p xs[k]
      all_goals
        rw [hpx] at hcall
        have HX := Lib.hid hpx
        have HC := Lib.hid hcall
        clear hpx hcall hbel
        go_wp2_with (refine Calls.mono HC.out ?_; rintro e w1 ⟨rfl, hb1⟩)
      · refine ⟨⟨k + 1, by omega, by go_num, fun j hj hjk => ?_, bel (ext_bel w xr) hb1⟩, by simp [intOf]; omega⟩
        rcases Nat.lt_succ_iff_lt_or_eq.1 hjk with h | rfl
        · exact HN.out j hj h
        · exact HX.out
      · go_ret
        exact ⟨ret_int (idxOf_found hlt HX.out fun j hj => HN.out j (by omega) hj).symm, bel (ext_bel w xr) hb1⟩
    · obtain rfl : k = xs.length := by omega
      go_wp2
      go_ret
      exact ⟨ret_int (idxOf_none fun j hj => HN.out j hj hj).symm, ext_bel w xr⟩
theorem containsFuncF (v : Value) (xs : List Flt) (f : FuncId) (caps : Array Value) (p : Flt → Bool) (w : World) (hS : SlAt w v 2 xs.length (fltsC xs)) (hp : PredF f caps w p xs) (hf : Enters Try.prog f) :
    Calls Try.prog 67 #[v, .func (.func f) #[] caps] w fun e w' => e = .returned (.bool (xs.any p)) ∧ Below w.heap.size w w' := by
  have hi := Lib.hid (idxOf_any p xs)
  have HI := Lib.hid (indexFuncF v xs f caps p w hS hp hf)
  obtain ⟨a, c, rfl, hnc, hcm⟩ := hS.form
  clear hp hS
  go_enter Try.func67, Try.ntmps67
  go_wp2_with fail
  refine HI.out.mono ?_
  rintro e w1 ⟨rfl, hb1⟩
  go_wp2
  go_ret
  exact ⟨ret_bool hi.out, hb1⟩
end Go.Proofs.Ytopaddpclipnjaa
namespace Go.Proofs.Ytopaddpclipnjaa
open Go.RowKit
abbrev stopV (k : Int) : Value := .iface 96 (.agg #[.int .i64 k])
theorem assert_yes (W : World) (v : Value) : (Instr.typeAssert (.iface 96 v) 20 96 true).run Try.prog W = .ok (.tuple #[v, .bool true]) W := by kernel_rfl
theorem stop1_idle (p : Addr) (w : World) :
    CallsD Try.prog 72 #[.pointer (some p)] .returning w fun e u' w' => e = .returned (.tuple #[]) ∧ u' = .returning ∧ w' = w := by
  refine callsD_of_wpS Try.func72 rfl fun c₀ cs hu => ?_
  apply wpS_seq
  apply wpS_region
  simp [wpOpsS, go_sem, recoverD, hu, Try.ntmps72, Exit.thenS]
  apply wpS_seq
  apply wpS_region
  simp [wpOpsS, go_sem, Exit.thenS]
  refine wpS_cond (t := false) (by simp [Act.eval, Array.replicate]) ?_
  simp only [Bool.false_eq_true, if_false]
  refine wpS_of_wp (wp_skip ?_)
  cases c₀
  simp_all [bodyPostS, results, Try.results72]
set_option maxRecDepth 100000 in
theorem stop1_catch (g : Nat) (k x : Int) (older : List PanicEntry) (w : World) (hb : w.heap[g]? = some (.cells #[.int .i64 x] 29 (0, 0))) :
    CallsD Try.prog 72 #[.pointer (some ⟨g, 0, none⟩)] (.panicking ({ v := stopV k, recovered := false } :: older)) w fun e u' w' =>
      e = .returned (.tuple #[]) ∧ u' = .panicking ({ v := stopV k, recovered := true } :: older) ∧ w' = (w.alloc (.cells #[.int .i64 k] 96)).setCell ⟨g, 0, none⟩ (.int .i64 k) := by
  refine callsD_of_wpS Try.func72 rfl fun c₀ cs hu => ?_
  apply wpS_seq
  apply wpS_region
  simp [wpOpsS, go_sem, recoverD, hu, Try.ntmps72, Exit.thenS]
  apply wpS_seq
  apply wpS_region
  simp [wpOpsS, go_sem, Exit.thenS]
  refine wpS_cond (t := true) (by simp [Act.eval, Array.replicate]) ?_
  simp only [if_true]
  refine wpS_of_wp ?_
  rw [show (#[Value.pointer (some ⟨g, 0, none⟩)] ++ ((((Array.replicate 16 undef).setIfInBounds 3 (stopV k)).setIfInBounds 0 (stopV k)).setIfInBounds 4 (stopV k)).setIfInBounds 5 (Value.bool true)) = #[.pointer (some ⟨g, 0, none⟩), stopV k, undef, undef, stopV k, stopV k, .bool true, undef, undef, undef, undef, undef, undef, undef, undef, undef, undef] by kernel_rfl]
  have hta := assert_yes
  have hc := fun o => blk_cell (blk_alloc o hb) (j := 0) rfl
  have hz := fun o => blk_free (blk_alloc o hb) 0
  go_wp2
  simp [bodyPostS, results, Try.results72]
theorem stop_ret (f : FuncId) (caps : Array Value) (w : World) (Φ : World → Prop) (he : Enters Try.prog f)
    (hf : Calls Try.prog f caps (w.alloc (.cells #[.int .i64 0] 29)) fun e w' => e = .returned (.tuple #[]) ∧ w'.heap[w.heap.size]? = some (.cells #[.int .i64 0] 29 (0, 0)) ∧ Φ w') :
    Calls Try.prog 48 #[.func (.func f) #[] caps] w fun e w' => ∃ w1, Φ w1 ∧ e = .returned (.int .i64 0) ∧ w' = w1.setCell ⟨w.heap.size, 0, none⟩ (.int .i64 0) := by
  have hmf : ∀ (fn : Fn) (first cap : Array Value) (w : World), (Instr.makeFunc fn first cap).run Try.prog w = .ok (.func fn first cap) w := fun _ _ _ _ => rfl
  have hen := he caps (w.alloc (.cells #[.int .i64 0] 29))
  go_enter_defers Try.func48, Try.ntmps48
  go_wp2_with (refine Calls.mono hf ?_; rintro e w1 ⟨rfl, hb, hφ⟩; have hc := blk_cell hb (j := 0) rfl; have hz := blk_free hb 0)
  refine leaves_cons (f := 72) (args := #[.pointer (some ⟨w.heap.size, 0, none⟩)]) (by simp) (by simp [go_sem]) ?_
  refine (stop1_idle ⟨w.heap.size, 0, none⟩ _).mono ?_
  rintro e u' w'' ⟨rfl, rfl, rfl⟩
  simp [Leaves, settle, results, Try.results48, go_sem, hc]
  exact ⟨w1, hφ, rfl⟩
theorem stop_pan (f : FuncId) (caps : Array Value) (k : Int) (w : World) (Φ : World → Prop) (he : Enters Try.prog f)
    (hf : Calls Try.prog f caps (w.alloc (.cells #[.int .i64 0] 29)) fun e w' => e = .panicked [{ v := stopV k, recovered := false }] ∧ w'.heap[w.heap.size]? = some (.cells #[.int .i64 0] 29 (0, 0)) ∧ Φ w') :
    Calls Try.prog 48 #[.func (.func f) #[] caps] w fun e w' => ∃ w1, Φ w1 ∧ e = .returned (.int .i64 k) ∧ w' = (w1.alloc (.cells #[.int .i64 k] 96)).setCell ⟨w.heap.size, 0, none⟩ (.int .i64 k) := by
  have hmf : ∀ (fn : Fn) (first cap : Array Value) (w : World), (Instr.makeFunc fn first cap).run Try.prog w = .ok (.func fn first cap) w := fun _ _ _ _ => rfl
  have hen := he caps (w.alloc (.cells #[.int .i64 0] 29))
  go_enter_defers Try.func48, Try.ntmps48
  go_wp2_with (refine Calls.mono hf ?_; rintro e w1 ⟨rfl, hb, hφ⟩)
  refine leaves_cons (f := 72) (args := #[.pointer (some ⟨w.heap.size, 0, none⟩)]) (by simp) (by simp [go_sem]) ?_
  refine (stop1_catch w.heap.size k 0 [] _ hb).mono ?_
  rintro e u' w'' ⟨rfl, rfl, rfl⟩
  have hc := fun o => blk_cell (blk_alloc o hb) (j := 0) rfl
  simp [Leaves, settle, results, Try.results48, go_sem, hc]
  exact ⟨w1, hφ, rfl⟩
theorem gr_bel {w w' : World} {row : Option Nat} (h : Below w.heap.size w w') : w.grownBy w' row := ⟨h.os, h.tape, h.output, h.size, fun i hi _ => h.block i hi⟩
theorem gr_set4 {w w1 : World} {g j : Nat} (h : w.grownBy w1 (some g)) (v : Value) : w.grownBy (w1.setCell ⟨g, j, none⟩ v) (some g) := by
  have key : w1.grownBy (w1.setCell ⟨g, j, none⟩ v) (some g) := ⟨rfl, rfl, rfl, by simp [World.setCell], fun i _ hne => by
    have : i ≠ g := fun h => hne (by rw [h])
    exact Below.heap_setCell w1 _ v i this⟩
  exact h.trans key
abbrev SC (v : Value) (gen used top : Int) (down : Bool) : Array Value := #[v, .int .i64 gen, .int .i64 used, .int .i64 top, .bool down]
theorem swrite_ok (g : Nat) (v : Value) (xs : List ByteArray) (gen used top : Int) (down : Bool) (at_ gn no : Int) (p : ByteArray) (fk fK : Int) (w : World)
    (hB : w.heap[g]? = some (.cells (SC v gen used top down) 26 (0, 0))) (hS : SlAt w v 1 xs.length (strs xs)) (hne : ∀ b, v.ownBlock = some b → b ≠ g) (h1 : fk ≠ 1) (h2 : fk ≠ 2) :
    Calls Try.prog 50 #[.pointer (some ⟨g, 0, none⟩), .int .i64 at_, .int .i64 gn, .int .i64 no, .string p, .agg #[.int .i64 fk, .int .i64 fK]] w fun e w' =>
      ∃ v', e = .returned (.tuple #[]) ∧ w'.heap[g]? = some (.cells (SC v' gen used top down) 26 (0, 0)) ∧ SlAt w' v' 1 (tearL xs at_ (sealS gn no p) 128).length (strs (tearL xs at_ (sealS gn no p) 128)) ∧ FreshV w.heap.size v' ∧ w.grownBy w' (some g) := by
  obtain ⟨a, c, rfl, hnc, hcm⟩ := hS.form
  obtain ⟨t, ht⟩ : ∃ t, t = sealS gn no p := ⟨_, rfl⟩
  have hs := fun W => seal_any gn no p W
  rw [← ht] at hs ⊢
  have HS := Lib.hid hs
  clear hs ht
  have hw := fun W (h : SlAt W (Value.slice a xs.length c) 1 xs.length (strs xs)) => write_any _ xs at_ t W h
  obtain ⟨ys, hys⟩ : ∃ ys, ys = tearL xs at_ t 128 := ⟨_, rfl⟩
  obtain ⟨eE, heE⟩ : ∃ eE, eE = tearE xs at_ t 128 := ⟨_, rfl⟩
  rw [← hys] at hw ⊢
  rw [← heE] at hw
  have HW := Lib.hid hw
  have HSl := Lib.hid hS
  have HB := Lib.hid hB
  have e1 : (fk == 1) = false := by simpa using h1
  have e2 : (fk == 2) = false := by simpa using h2
  clear hw hS hB h1 h2
  clear hys heE
  go_enter Try.func50, Try.ntmps50
  go_wp2_with (first
    | (go_at_call 33; refine (HS.out _).mono ?_; rintro e w1 ⟨rfl, hb1⟩; have K1 := Lib.hid (blk_call hb1 (blk_new w (.cells #[.int .i64 fk, .int .i64 fK] 45))); have c1 := blk_cell K1.out (j := 0) rfl; have z1 := blk_free K1.out 0; have G1 := Lib.hid (blk_call hb1 (blk_alloc _ HB.out)); have c2 := blk_cell G1.out (j := 0) rfl; have z2 := blk_free G1.out 0)
    | (go_at_call 34; refine (HW.out _ (HSl.out.stay (bel (bal (Below.refl _ _) _) hb1))).mono ?_; rintro e w2 ⟨v2, rfl, hv2, hf2, hb2⟩; obtain ⟨a2, c2', rfl, hn2, hm2⟩ := hv2.form; have HV2 := Lib.hid hv2; have G2 := Lib.hid (blk_call hb2 G1.out); have c3 := blk_cell G2.out (j := 0) rfl; have z3 := blk_free G2.out 0; clear hv2))
  go_end0
  have hw2 := bel (bel (bal (Below.refl w.heap.size w) (.cells #[.int .i64 fk, .int .i64 fK] 45)) hb1) hb2
  have hg : g < w.heap.size := blk_lt HB.out
  have hsz : w.heap.size ≤ w1.heap.size := (bel (bal (Below.refl w.heap.size w) (.cells #[.int .i64 fk, .int .i64 fK] 45)) hb1).size
  exact ⟨.slice a2 _ c2', rfl, blk_set G2.out 0 _, HV2.out.store (p := ⟨g, 0, none⟩) (fun b hb => by have := hf2 b hb; show b ≠ g; omega) _, hf2.mono hsz, gr_set4 (gr_bel hw2) _⟩
theorem swrite_fail (g : Nat) (v : Value) (gen used top : Int) (down : Bool) (at_ gn no : Int) (p : ByteArray) (fK : Int) (w : World)
    (hB : w.heap[g]? = some (.cells (SC v gen used top down) 26 (0, 0))) :
    Calls Try.prog 50 #[.pointer (some ⟨g, 0, none⟩), .int .i64 at_, .int .i64 gn, .int .i64 no, .string p, .agg #[.int .i64 1, .int .i64 fK]] w fun e w' =>
      e = .panicked [{ v := stopV 8, recovered := false }] ∧ Below w.heap.size w w' := by
  obtain ⟨t, ht⟩ : ∃ t, t = sealS gn no p := ⟨_, rfl⟩
  have hs := fun W => seal_any gn no p W
  rw [← ht] at hs
  have HS := Lib.hid hs
  clear hs ht
  go_enter Try.func50, Try.ntmps50
  go_wp2_with (first
    | (go_at_call 33; refine (HS.out _).mono ?_; rintro e w1 ⟨rfl, hb1⟩; have K1 := Lib.hid (blk_call hb1 (blk_new w (.cells #[.int .i64 1, .int .i64 fK] 45))); have c1 := blk_cell K1.out (j := 0) rfl; have z1 := blk_free K1.out 0))
  exact ⟨rfl, rfl, bel (bal (Below.refl _ _) _) hb1⟩
theorem swrite_crash (g : Nat) (v : Value) (xs : List ByteArray) (gen used top : Int) (down : Bool) (at_ gn no : Int) (p : ByteArray) (fK : Int) (w : World)
    (hB : w.heap[g]? = some (.cells (SC v gen used top down) 26 (0, 0))) (hS : SlAt w v 1 xs.length (strs xs)) (hne : ∀ b, v.ownBlock = some b → b ≠ g) :
    Calls Try.prog 50 #[.pointer (some ⟨g, 0, none⟩), .int .i64 at_, .int .i64 gn, .int .i64 no, .string p, .agg #[.int .i64 2, .int .i64 fK]] w fun e w' =>
      ∃ v', e = .panicked [{ v := stopV 9, recovered := false }] ∧ w'.heap[g]? = some (.cells (SC v' gen used top true) 26 (0, 0)) ∧ SlAt w' v' 1 (tearL xs at_ (sealS gn no p) fK).length (strs (tearL xs at_ (sealS gn no p) fK)) ∧ FreshV w.heap.size v' ∧ w.grownBy w' (some g) := by
  obtain ⟨a, c, rfl, hnc, hcm⟩ := hS.form
  obtain ⟨t, ht⟩ : ∃ t, t = sealS gn no p := ⟨_, rfl⟩
  have hs := fun W => seal_any gn no p W
  rw [← ht] at hs ⊢
  have HS := Lib.hid hs
  clear hs ht
  have hw := fun W (h : SlAt W (Value.slice a xs.length c) 1 xs.length (strs xs)) => tear_any _ xs at_ t fK W h
  obtain ⟨ys, hys⟩ : ∃ ys, ys = tearL xs at_ t fK := ⟨_, rfl⟩
  obtain ⟨eE, heE⟩ : ∃ eE, eE = tearE xs at_ t fK := ⟨_, rfl⟩
  rw [← hys] at hw ⊢
  rw [← heE] at hw
  have HW := Lib.hid hw
  have HSl := Lib.hid hS
  have HB := Lib.hid hB
  clear hw hS hB
  clear hys heE
  go_enter Try.func50, Try.ntmps50
  go_wp2_with (first
    | (go_at_call 33; refine (HS.out _).mono ?_; rintro e w1 ⟨rfl, hb1⟩; have K1 := Lib.hid (blk_call hb1 (blk_new w (.cells #[.int .i64 2, .int .i64 fK] 45))); have c1 := blk_cell K1.out (j := 0) rfl; have z1 := blk_free K1.out 0; have c1b := blk_cell K1.out (j := 1) rfl; have z1b := blk_free K1.out 1; have G1 := Lib.hid (blk_call hb1 (blk_alloc _ HB.out)); have c2 := blk_cell G1.out (j := 0) rfl; have z2 := blk_free G1.out 0)
    | fail)
  have hd : SlAt w1.drew (Value.slice a xs.length c) 1 xs.length (strs xs) := HSl.out.stay (bdn (bel (bal (Below.refl _ _) _) hb1) 1)
  have gd : w1.drew.heap[g]? = some (.cells (SC (.slice a xs.length c) gen used top down) 26 (0, 0)) := G1.out
  have hcall := HW.out w1.drew hd
  go_region_law (go_simp; go_at_call 59; refine hcall.mono ?_; rintro e w2 ⟨v2, rfl, hv2, hf2, hb2⟩; obtain ⟨a2, c2', rfl, hn2, hm2⟩ := hv2.form; have HV2 := Lib.hid hv2; have G2 := Lib.hid (blk_call hb2 gd); have c3 := blk_cell G2.out (j := 0) rfl; have z3 := blk_free G2.out 0; clear hv2)
  all_goals
    have G3 := Lib.hid (blk_set G2.out 0 (Value.slice a2 ys.length c2'))
    have c5 : (w2.setCell ⟨g, 0, none⟩ (Value.slice a2 ys.length c2')).cell? ⟨g, 4, none⟩ = some (.bool down) := blk_cell G3.out (j := 4) rfl
    have z5 := blk_free G3.out 4
    go_wp2
    have hw1 := bdn (bel (bal (Below.refl w.heap.size w) (.cells #[.int .i64 2, .int .i64 fK] 45)) hb1) 1
    have hw2 := bel hw1 hb2
    have hg : g < w.heap.size := blk_lt HB.out
    have hsz : w.heap.size ≤ w1.drew.heap.size := hw1.size
    have hs0 := HV2.out.store (p := ⟨g, 0, none⟩) (fun b hb => by have := hf2 b hb; show b ≠ g; omega) (.slice a2 ys.length c2')
    exact ⟨rfl, .slice a2 ys.length c2', rfl, blk_set G3.out 4 _, hs0.store (p := ⟨g, 4, none⟩) (fun b hb => by have := hf2 b hb; show b ≠ g; omega) _, hf2.mono hsz, gr_set4 (gr_set4 (gr_bel hw2) _) _⟩
end Go.Proofs.Ytopaddpclipnjaa
namespace Go.Proofs.Ytopaddpclipnjaa
open Go.RowKit
structure Sto where
  xs : List ByteArray
  gen : Int
  used : Int
  top : Int
  down : Bool
def areaD (xs : List ByteArray) : Int := (xs.length : Int) / 2 - 1
def logB (xs : List ByteArray) : Bool := rightD xs && decide ((xs.length : Int) % 2 = 0)
def inB (n lo hi : Int) : Bool := decide (lo ≤ n) && decide (n ≤ hi)
def Sto.okB (s : Sto) : Bool := logB s.xs && (inB s.gen 1 250 && (inB s.used 0 (areaD s.xs) && inB s.top s.gen 250))
def mayS (s : Sto) (l : List ByteArray) (fs : List Flt) : Int :=
  if (!s.okB || fs.any fun f => !fltB f) = true then 1 else if (l.any fun p => decide (96 < p.size)) = true then 2 else if s.down = true then 9 else 0
def Sto.val (s : Sto) (v : Value) : Value := .agg (SC v s.gen s.used s.top s.down)
theorem in_any (n lo hi : Int) (w : World) : Calls Try.prog 39 #[.int .i64 n, .int .i64 lo, .int .i64 hi] w fun e w' => e = .returned (.bool (inB n lo hi)) ∧ w' = w := by
  unfold inB
  by_cases h1 : lo ≤ n <;> by_cases h2 : n ≤ hi
  all_goals
    go_enter Try.func39, Try.ntmps39
    go_wp2
    go_ret
    simp [h1, h2]
theorem isFault_any (x : Flt) (w : World) : Calls Try.prog 69 #[fltV x] w fun e w' => e = .returned (.bool (fltB x)) ∧ Below w.heap.size w w' := by
  have HI := Lib.hid (fun n lo hi W => in_any n lo hi W)
  have e : fltB x = (inB x.kind 0 2 && inB x.k 0 128) := by unfold fltB inB; simp [Bool.and_assoc]
  rw [e]
  unfold fltV
  cases h : inB x.kind 0 2
  all_goals
    go_enter Try.func69, Try.ntmps69
    go_wp2_with (go_at_call 39; refine (HI.out _ _ _ _).mono ?_; (try rw [h]); rintro e w' ⟨rfl, rfl⟩)
    go_ret
    exact ⟨rfl, bal (Below.refl _ _) _⟩
theorem may1_any (x : Flt) (w : World) : Calls Try.prog 68 #[fltV x] w fun e w' => e = .returned (.bool (!fltB x)) ∧ Below w.heap.size w w' := by
  have HI := Lib.hid (fun W => isFault_any x W)
  unfold fltV at HI ⊢
  go_enter Try.func68, Try.ntmps68
  go_wp2_with (go_at_call 69; refine (HI.out _).mono ?_; rintro e w' ⟨rfl, hb⟩)
  go_ret
  exact ⟨rfl, bel (bal (Below.refl _ _) _) hb⟩
theorem may2_any (x : ByteArray) (w : World) : Calls Try.prog 71 #[.string x] w fun e w' => e = .returned (.bool (decide (96 < x.size))) ∧ Below w.heap.size w w' := by
  by_cases h : 96 < x.size
  all_goals
    go_enter Try.func71, Try.ntmps71
    go_wp2
    go_ret
    exact ⟨ret_bool (by rw [Bool.eq_iff_iff]; simp only [decide_eq_true_eq]; omega), Below.refl _ _⟩
theorem area_any (v : Value) (xs : List ByteArray) (w : World) (hS : SlAt w v 1 xs.length (strs xs)) : Calls Try.prog 37 #[.agg #[v]] w fun e w' => e = .returned (.int .i64 (areaD xs)) ∧ Below w.heap.size w w' := by
  obtain ⟨a, c, rfl, hnc, hcm⟩ := hS.form
  go_enter Try.func37, Try.ntmps37
  go_wp2
  go_ret
  refine ⟨ret_int ?_, bal (Below.refl _ _) _⟩
  unfold maxLen at hcm
  unfold areaD wrap64
  omega
theorem hasLog_any (v : Value) (xs : List ByteArray) (w : World) (hS : SlAt w v 1 xs.length (strs xs)) : Calls Try.prog 35 #[.agg #[v]] w fun e w' => e = .returned (.bool (logB xs)) ∧ Below w.heap.size w w' := by
  obtain ⟨a, c, rfl, hnc, hcm⟩ := hS.form
  have HR := Lib.hid (fun W (h : SlAt W (Value.slice a xs.length c) 1 xs.length (strs xs)) => right_any _ xs W h)
  have HS := Lib.hid hS
  clear hS
  unfold logB
  cases h : rightD xs
  all_goals
    go_enter Try.func35, Try.ntmps35
    go_wp2_with (go_at_call 60; refine (HR.out _ (HS.out.stay (bal (Below.refl _ _) _))).mono ?_; (try rw [h]); rintro e w1 ⟨rfl, hb⟩; have K1 := Lib.hid (blk_call hb (blk_new w _)); have c1 := blk_cell K1.out (j := 0) rfl; have z1 := blk_free K1.out 0)
    go_ret
    refine ⟨ret_bool ?_, bel (bal (Below.refl _ _) _) hb⟩
    first | rfl | (rw [Bool.true_and, Bool.eq_iff_iff]; simp)
def placeD (xs : List ByteArray) (gen i : Int) : Int := 2 + gen % 2 * areaD xs + i
theorem place_any (v : Value) (xs : List ByteArray) (gen i : Int) (w : World) (hS : SlAt w v 1 xs.length (strs xs)) (hl : xs.length ≤ 1000) (hg0 : 0 ≤ gen) (hg : gen ≤ 1000) (hi0 : 0 ≤ i) (hi : i ≤ 1000) :
    Calls Try.prog 38 #[.agg #[v], .int .i64 gen, .int .i64 i] w fun e w' => e = .returned (.int .i64 (placeD xs gen i)) ∧ Below w.heap.size w w' := by
  obtain ⟨a, c, rfl, hnc, hcm⟩ := hS.form
  have HA := Lib.hid (fun W (h : SlAt W (Value.slice a xs.length c) 1 xs.length (strs xs)) => area_any _ xs W h)
  have HS := Lib.hid hS
  clear hS
  go_enter Try.func38, Try.ntmps38
  go_wp2_with (go_at_call 37; refine (HA.out _ (HS.out.stay (bal (Below.refl _ _) _))).mono ?_; rintro e w1 ⟨rfl, hb⟩)
  go_ret
  refine ⟨ret_int ?_, bel (bal (Below.refl _ _) _) hb⟩
  unfold placeD areaD
  rcases (by omega : gen % 2 = 0 ∨ gen % 2 = 1) with h | h
  · rw [h]
    unfold wrap64
    omega
  · rw [h]
    unfold wrap64
    omega
end Go.Proofs.Ytopaddpclipnjaa
namespace Go.Proofs.YtopaddpclipnjaaQ.P
open Go.RowKit Go.Proofs.YtopaddpclipnjaaW.PrintWords Go.Proofs.Ytopaddpclipnjaa
theorem c_of_slat {w : World} {A : Option Addr} {c : Nat} {xs : List ByteArray} (h : SlAt w (.slice A xs.length c) 1 xs.length (strs xs)) : Kd.C Kd.string w A xs.length xs ∧ xs.length ≤ c := by
  have hv := v_of_fresh (B := 0) (e := 9) (base := 0) h (fun _ _ => Nat.zero_le _)
  obtain ⟨_, h2, h3⟩ := Kd.V_reads' hv
  exact ⟨h3, h2⟩
end Go.Proofs.YtopaddpclipnjaaQ.P
namespace Go.Proofs.Ytopaddpclipnjaa
open Go.RowKit
section
attribute [local go_sem high] ext_size ext_cell ext_frozen alloc_cell alloc_frozen
set_option maxHeartbeats 4000000 in
theorem sRight_any (s : Sto) (v : Value) (w : World) (hS : SlAt w v 1 s.xs.length (strs s.xs)) : Calls Try.prog 13 #[s.val v] w fun e w' => e = .returned (.bool s.okB) ∧ Below w.heap.size w w' := by
  obtain ⟨a, c, rfl, hnc, hcm⟩ := hS.form
  have HL := Lib.hid (fun W (h : SlAt W (Value.slice a s.xs.length c) 1 s.xs.length (strs s.xs)) => hasLog_any _ s.xs W h)
  have HA := Lib.hid (fun W (h : SlAt W (Value.slice a s.xs.length c) 1 s.xs.length (strs s.xs)) => area_any _ s.xs W h)
  have HI := Lib.hid (fun n lo hi W => (in_any n lo hi W).mono fun e w' (hh : e = _ ∧ w' = W) => (⟨hh.1, hh.2 ▸ Below.refl _ _⟩ : e = _ ∧ Below W.heap.size W w'))
  have HS := Lib.hid hS
  clear hS
  unfold Sto.val Sto.okB at *
  obtain ⟨xs, gen, used, top, down⟩ := s
  simp only at *
  obtain ⟨L, hL⟩ : ∃ L, L = logB xs := ⟨_, rfl⟩
  obtain ⟨n, hn⟩ : ∃ n, n = areaD xs := ⟨_, rfl⟩
  rw [← hL] at HL ⊢
  rw [← hn] at HA ⊢
  clear hL hn
  have e1 : ∀ W, Calls Try.prog 39 #[.int .i64 gen, .int .i64 1, .int .i64 250] W fun e w' => e = .returned (.bool (inB gen 1 250)) ∧ Below W.heap.size W w' := fun W => HI.out gen 1 250 W
  have e2 : ∀ W, Calls Try.prog 39 #[.int .i64 used, .int .i64 0, .int .i64 n] W fun e w' => e = .returned (.bool (inB used 0 n)) ∧ Below W.heap.size W w' := fun W => HI.out used 0 n W
  have e3 : ∀ W, Calls Try.prog 39 #[.int .i64 top, .int .i64 gen, .int .i64 250] W fun e w' => e = .returned (.bool (inB top gen 250)) ∧ Below W.heap.size W w' := fun W => HI.out top gen 250 W
  have E1 := Lib.hid e1
  have E2 := Lib.hid e2
  have E3 := Lib.hid e3
  clear e1 e2 e3 HI
  cases L
  case' true =>
    cases h1 : inB gen 1 250
    case' true =>
      cases h2 : inB used 0 n
      case' true => cases h3 : inB top gen 250
  all_goals
    (try rw [h1] at E1)
    (try rw [h2] at E2)
    (try rw [h3] at E3)
    go_enter Try.func13, Try.ntmps13
    go_wp2
    refine wp_region_ext (by kernel_rfl) (by kernel_rfl) ?_
    repeat (go_big_quiet_step ((first | (go_at_call 35; exact Calls.grew (HL.out _ (HS.out.stay (by repeat (first | exact Below.refl _ _ | apply bal | apply bext | apply bdr | apply bdrN | (refine bst ?_ _ (by simp only [ext_size, size_alloc, size_set]; omega))))))) | (go_at_call 37; exact Calls.grew (HA.out _ (HS.out.stay (by repeat (first | exact Below.refl _ _ | apply bal | apply bext | apply bdr | apply bdrN | (refine bst ?_ _ (by simp only [ext_size, size_alloc, size_set]; omega))))))) | (with_reducible exact Calls.grew (E1.out _)) | (with_reducible exact Calls.grew (E2.out _)) | (with_reducible exact Calls.grew (E3.out _)))))
    refine wpQuiet_nil ?_
    intro _ hw'
    obtain ⟨y1, rfl⟩ := hw'
    go_wp2
    go_ret
    exact ⟨ret_bool (by simp [*]), (by repeat (first | exact Below.refl _ _ | apply bal | apply bext | apply bdr | apply bdrN | (refine bst ?_ _ (by simp only [ext_size, size_alloc, size_set]; omega))))⟩
end
end Go.Proofs.Ytopaddpclipnjaa
namespace Go.Proofs.YtopaddpclipnjaaQ.P
open Go.RowKit Go.Proofs.YtopaddpclipnjaaW.PrintWords Go.Proofs.Ytopaddpclipnjaa
theorem storeRight_any (s : Sto) (v : Value) (w : World) (hS : SlAt w v 1 s.xs.length (strs s.xs)) : Calls Try.prog 13 #[s.val v] w fun e w' => e = .returned (.bool s.okB) ∧ Below w.heap.size w w' := sRight_any s v w hS
end Go.Proofs.YtopaddpclipnjaaQ.P
namespace Go.Proofs.Ytopaddpclipnjaa
open Go.RowKit
theorem storeMay_any (s : Sto) (v v1 v2 : Value) (l : List ByteArray) (fs : List Flt) (w : World) (hS : SlAt w v 1 s.xs.length (strs s.xs)) (h1 : SlAt w v1 1 l.length (strs l)) (h2 : SlAt w v2 2 fs.length (fltsC fs)) :
    Calls Try.prog 47 #[s.val v, v1, v2] w fun e w' => e = .returned (.int .i64 (mayS s l fs)) ∧ Below w.heap.size w w' := by
  have HR := Lib.hid (fun W (h : SlAt W v 1 s.xs.length (strs s.xs)) => Go.Proofs.YtopaddpclipnjaaQ.P.storeRight_any s v W h)
  have HF := Lib.hid (fun W (h : SlAt W v2 2 fs.length (fltsC fs)) => containsFuncF v2 fs 68 #[] (fun f => !fltB f) W h (fun x _ W' _ => may1_any x W') (enters_of Try.func68 (by kernel_rfl) rfl))
  have HP := Lib.hid (fun W (h : SlAt W v1 1 l.length (strs l)) => containsFuncS_any v1 l 71 #[] (fun p => decide (96 < p.size)) W h (fun x _ W' _ => may2_any x W') (enters_of Try.func71 (by kernel_rfl) rfl))
  have H1 := Lib.hid h1
  have H2 := Lib.hid h2
  have H0 := Lib.hid hS
  obtain ⟨a0, c0, rfl, _, _⟩ := hS.form
  obtain ⟨a1, c1, rfl, _, _⟩ := h1.form
  obtain ⟨a2, c2, rfl, _, _⟩ := h2.form
  clear hS h1 h2
  obtain ⟨r, hr⟩ : ∃ r, r = s.okB := ⟨_, rfl⟩
  obtain ⟨x, hx⟩ : ∃ x, x = fs.any (fun f => !fltB f) := ⟨_, rfl⟩
  obtain ⟨y, hy⟩ : ∃ y, y = l.any (fun p => decide (96 < p.size)) := ⟨_, rfl⟩
  unfold mayS
  rw [← hr] at HR ⊢
  rw [← hx] at HF ⊢
  rw [← hy] at HP ⊢
  unfold Sto.val at HR ⊢
  obtain ⟨xs, gen, used, top, down⟩ := s
  simp only at HR H0 ⊢
  clear hr hx hy
  cases r <;> cases x <;> cases y <;> cases down
  all_goals
    go_enter Try.func47, Try.ntmps47
    go_wp2_with (first
      | (go_at_call 13; refine (HR.out _ (H0.out.stay (bal (Below.refl _ _) _))).mono ?_; rintro e w1 ⟨rfl, hb1⟩; have hw1 := bel (bal (Below.refl w.heap.size w) _) hb1; have K1 := Lib.hid (blk_call hb1 (blk_new w _)); have k1 := blk_cell K1.out (j := 4) rfl; have z1 := blk_free K1.out 4)
      | (go_at_call 67; refine (HF.out _ (H2.out.stay hw1)).mono ?_; rintro e w2 ⟨rfl, hb2⟩; have hw2 := bel hw1 hb2; have K2 := Lib.hid (blk_call hb2 K1.out); have k2 := blk_cell K2.out (j := 4) rfl; have z2 := blk_free K2.out 4)
      | (go_at_call 70; refine (HP.out _ (H1.out.stay hw2)).mono ?_; rintro e w3 ⟨rfl, hb3⟩; have hw3 := bel hw2 hb3; have K3 := Lib.hid (blk_call hb3 K2.out); have k3 := blk_cell K3.out (j := 4) rfl; have z3 := blk_free K3.out 4))
    go_ret
    refine ⟨rfl, ?_⟩
    first | exact hw3 | exact hw2 | exact hw1
end Go.Proofs.Ytopaddpclipnjaa
