/- Part 4 of a proof: contracts and plain laws of what the statement reaches. No condition. -/
import Derived.Test.YtopaddpclipnjaaStoreBootsz1
import Derived.Test.YtopaddpclipnjaaStoreBootsz3
set_option linter.unusedVariables false
set_option linter.unusedSimpArgs false
namespace Go.Proofs.YtopaddpclipnjaaQ.P
open Go.RowKit Go.Proofs.YtopaddpclipnjaaW.PrintWords Go.Proofs.YtopaddpclipnjaaW.PrintLast Go.Proofs.YtopaddpclipnjaaW.PrintMore
attribute [local go_sem] max2_int min2_int max_two min_two max_three min_three max_four min_four
mutual
def foghornref04_Boot.j1 : Nat → List ByteArray → List ByteArray → List ByteArray → Int → Int → Int → Bool → Option (List ByteArray × Int × Int × Int × Bool × List ByteArray × Bool)
 | 0, _, _, _, _, _, _, _ => none
 | k + 1, x6, x258000, x261000, x261001, x261002, x261003, x261004 => foghornref04_Boot.l1 k x6 x258000 (x258000.length : Int) 0 x261000 x261001 (x6.length : Int) x261001 x261004
def foghornref04_Boot.l1 : Nat → List ByteArray → List ByteArray → Int → Int → List ByteArray → Int → Int → Int → Bool → Option (List ByteArray × Int × Int × Int × Bool × List ByteArray × Bool)
 | 0, _, _, _, _, _, _, _, _, _ => none
 | k + 1, x6, x55, x56, x57, x261000, x261001, x261002, x261003, x261004 => if x57 < x56 then (if 0 ≤ x57 then (if x57 < (x55.length : Int) then (if 0 < ((rdOf ByteArray.empty x55 x57).size : Int) then (if (wrap64 (bt (rdOf ByteArray.empty x55 x57) 0)) ≤ 250 then (if (wrap64 (bt (rdOf ByteArray.empty x55 x57) 0)) > x261003 then (foghornref04_Boot.l1 k x6 x55 x56 (wrap64 (x57 + 1)) x261000 x261001 x261002 (wrap64 (bt (rdOf ByteArray.empty x55 x57) 0)) x261004) else (foghornref04_Boot.l1 k x6 x55 x56 (wrap64 (x57 + 1)) x261000 x261001 x261002 x261003 x261004)) else (foghornref04_Boot.l1 k x6 x55 x56 (wrap64 (x57 + 1)) x261000 x261001 x261002 x261003 x261004)) else (none)) else (none)) else (none)) else (some (x261000, x261001, x261002, x261003, x261004, x6, true))
def foghornref04_Boot.l0 : Nat → List ByteArray → Int → List ByteArray → List ByteArray → Int → Int → Int → Bool → Option (List ByteArray × Int × Int × Int × Bool × List ByteArray × Bool)
 | 0, _, _, _, _, _, _, _, _ => none
 | k + 1, x6, x7, x258000, x261000, x261001, x261002, x261003, x261004 => (foghornref04_Area.f x258000).bind fun t264 => (if x7 < t264 then ((foghornref04_place.f x258000 x261001 x7).bind fun t265 => ((foghornref04_is.f x258000 t265 x261001 (wrap64 (x7 + 1))).bind fun bt266 => (if bt266.2 = true then (if x6.length < 8796093022208 then (foghornref04_Boot.l0 k (x6 ++ [bt266.1]) (wrap64 (x7 + 1)) x258000 x261000 x261001 x261002 x261003 x261004) else (none)) else (foghornref04_Boot.j1 k x6 x258000 x261000 x261001 x261002 x261003 x261004)))) else (foghornref04_Boot.j1 k x6 x258000 x261000 x261001 x261002 x261003 x261004))
end
def foghornref04_Boot.f (k : Nat) (l0_0 : List ByteArray) : Option (List ByteArray × Int × Int × Int × Bool × List ByteArray × Bool) := (foghornref04_newest.f k l0_0).bind fun t259 => (if t259 = 0 then (some (([] : List ByteArray), 0, 0, 0, false, ([] : List ByteArray), false)) else (foghornref04_Boot.l0 k (([] : List ByteArray)) 0 l0_0 l0_0 t259 0 0 false))
theorem foghornref04_Boot.mono_l : ∀ k, (∀ y0 y1 y2 y3 y4 y5 y6, LeO (foghornref04_Boot.j1 k y0 y1 y2 y3 y4 y5 y6) (foghornref04_Boot.j1 (k + 1) y0 y1 y2 y3 y4 y5 y6)) ∧ (∀ y0 y1 y2 y3 y4 y5 y6 y7 y8, LeO (foghornref04_Boot.l1 k y0 y1 y2 y3 y4 y5 y6 y7 y8) (foghornref04_Boot.l1 (k + 1) y0 y1 y2 y3 y4 y5 y6 y7 y8)) ∧ (∀ y0 y1 y2 y3 y4 y5 y6 y7, LeO (foghornref04_Boot.l0 k y0 y1 y2 y3 y4 y5 y6 y7) (foghornref04_Boot.l0 (k + 1) y0 y1 y2 y3 y4 y5 y6 y7))
 | 0 => ⟨fun _ _ _ _ _ _ _ r h => by simp [foghornref04_Boot.j1] at h, fun _ _ _ _ _ _ _ _ _ r h => by simp [foghornref04_Boot.l1] at h, fun _ _ _ _ _ _ _ _ r h => by simp [foghornref04_Boot.l0] at h⟩
 | k + 1 => by
  obtain ⟨ih0, ih1, ih2⟩ := foghornref04_Boot.mono_l k
  refine ⟨?_, ?_, ?_⟩
  ·intro y0 y1 y2 y3 y4 y5 y6
   unfold foghornref04_Boot.j1
   repeat' first
   | (with_reducible exact ih0 _ _ _ _ _ _ _)
   | (with_reducible exact ih1 _ _ _ _ _ _ _ _ _)
   | (with_reducible exact ih2 _ _ _ _ _ _ _ _)
   | (with_reducible exact foghornref04_newest.mono _ _)
   | (with_reducible exact LeO.refl _)
   | (with_reducible exact LeO.none _)
   | (with_reducible refine LeO.ite ?_ ?_)
   | (with_reducible refine LeO.bind ?_ (fun _ => ?_))
   | exact ih0 _ _ _ _ _ _ _
   | exact ih1 _ _ _ _ _ _ _ _ _
   | exact ih2 _ _ _ _ _ _ _ _
   | exact foghornref04_newest.mono _ _
   | exact LeO.none _
   | refine LeO.ite ?_ ?_
   | refine LeO.bind ?_ (fun _ => ?_)
  ·intro y0 y1 y2 y3 y4 y5 y6 y7 y8
   unfold foghornref04_Boot.l1
   repeat' first
   | (with_reducible exact ih0 _ _ _ _ _ _ _)
   | (with_reducible exact ih1 _ _ _ _ _ _ _ _ _)
   | (with_reducible exact ih2 _ _ _ _ _ _ _ _)
   | (with_reducible exact foghornref04_newest.mono _ _)
   | (with_reducible exact LeO.refl _)
   | (with_reducible exact LeO.none _)
   | (with_reducible refine LeO.ite ?_ ?_)
   | (with_reducible refine LeO.bind ?_ (fun _ => ?_))
   | exact ih0 _ _ _ _ _ _ _
   | exact ih1 _ _ _ _ _ _ _ _ _
   | exact ih2 _ _ _ _ _ _ _ _
   | exact foghornref04_newest.mono _ _
   | exact LeO.none _
   | refine LeO.ite ?_ ?_
   | refine LeO.bind ?_ (fun _ => ?_)
  ·intro y0 y1 y2 y3 y4 y5 y6 y7
   unfold foghornref04_Boot.l0
   repeat' first
   | (with_reducible exact ih0 _ _ _ _ _ _ _)
   | (with_reducible exact ih1 _ _ _ _ _ _ _ _ _)
   | (with_reducible exact ih2 _ _ _ _ _ _ _ _)
   | (with_reducible exact foghornref04_newest.mono _ _)
   | (with_reducible exact LeO.refl _)
   | (with_reducible exact LeO.none _)
   | (with_reducible refine LeO.ite ?_ ?_)
   | (with_reducible refine LeO.bind ?_ (fun _ => ?_))
   | exact ih0 _ _ _ _ _ _ _
   | exact ih1 _ _ _ _ _ _ _ _ _
   | exact ih2 _ _ _ _ _ _ _ _
   | exact foghornref04_newest.mono _ _
   | exact LeO.none _
   | refine LeO.ite ?_ ?_
   | refine LeO.bind ?_ (fun _ => ?_)
theorem foghornref04_Boot.mono : ∀ a0 k, LeO (foghornref04_Boot.f k a0) (foghornref04_Boot.f (k + 1) a0) := by
 intro a0 k
 obtain ⟨ih0, ih1, ih2⟩ := foghornref04_Boot.mono_l k
 unfold foghornref04_Boot.f
 repeat' first
   | (with_reducible exact ih0 _ _ _ _ _ _ _)
   | (with_reducible exact ih1 _ _ _ _ _ _ _ _ _)
   | (with_reducible exact ih2 _ _ _ _ _ _ _ _)
   | (with_reducible exact foghornref04_newest.mono _ _)
   | (with_reducible exact LeO.refl _)
   | (with_reducible exact LeO.none _)
   | (with_reducible refine LeO.ite ?_ ?_)
   | (with_reducible refine LeO.bind ?_ (fun _ => ?_))
   | exact ih0 _ _ _ _ _ _ _
   | exact ih1 _ _ _ _ _ _ _ _ _
   | exact ih2 _ _ _ _ _ _ _ _
   | exact foghornref04_newest.mono _ _
   | exact LeO.none _
   | refine LeO.ite ?_ ?_
   | refine LeO.bind ?_ (fun _ => ?_)
def foghornref04_Boot.T8 : Bool × List (List Nat × List Nat) := (true, [([], []), ([], []), ([], []), ([2], [2]), ([], []), ([1, 3, 4], [1, 3, 4]), ([], []), ([6], [6]), ([], []), ([8], [8]), ([0, 5, 7, 9, 5], [0, 5, 7, 9]), ([10], [10]), ([11], [11]), ([11], [11]), ([12, 10, 0, 1, 2, 3, 4, 5, 6, 7, 8, 9, 10, 11, 12], [12]), ([13, 14, 0, 1, 2, 3, 4, 5, 6, 7, 8, 9, 10, 11, 12, 13, 14], [13])])
def foghornref04_Boot.B8 : List Nat := [0, 0, 0, 4, 0, 30, 0, 64, 0, 256, 1023, 2047, 4095, 4095, 8191, 32767]
theorem foghornref04_Boot.tab8 : rtab .any (opsOf Try.f19 8) = foghornref04_Boot.T8 := by kernel_rfl
theorem foghornref04_Boot.bits8 : waitsOk foghornref04_Boot.T8.2 foghornref04_Boot.B8 = true := by kernel_rfl
set_option maxHeartbeats 8000000 in
set_option maxRecDepth 100000 in
theorem foghornref04_Boot.calls (k : Nat) (P0_0_ : Nat → Prop) (A0_0 : Option Addr) (c0_0 : Nat) (l0_0 : List ByteArray) (r1 : List ByteArray) (r2 : Int) (r3 : Int) (r4 : Int) (r5 : Bool) (r6 : List ByteArray) (r7 : Bool) (w : World) (hs0_0 : Kd.V Kd.string 9 w w.heap.size (fun k_ => P0_0_ k_) (.slice A0_0 l0_0.length c0_0) l0_0) (h : foghornref04_Boot.f k l0_0 = some (r1, r2, r3, r4, r5, r6, r7)) :
  Calls Try.prog 19 #[.agg #[.slice A0_0 l0_0.length c0_0]] w fun e w' => ∃ v0_ v5_ : Value, e = .returned (.tuple #[.agg #[v0_, .int .i64 r2, .int .i64 r3, .int .i64 r4, .bool r5], v5_, .bool r7]) ∧ Kd.V Kd.string 9 w' w.heap.size (fun k_ => (P0_0_ k_ ∨ w.heap.size ≤ k_) ∧ some k_ ≠ (v5_ : Value).ownBlock) v0_ r1 ∧ Kd.R Kd.string 9 w' w.heap.size (fun k_ => (w.heap.size ≤ k_)) v5_ r6 ∧ Below w.heap.size w w' := by
 have hu24 := Try.underlying24
 have hu26 := Try.underlying26
 have HO0_0 := aA (show Kd.V Kd.string 9 w w.heap.size (fun k_ => (P0_0_ k_ ∨ w.heap.size ≤ k_)) (.slice A0_0 l0_0.length c0_0) l0_0 from Kd.V_mono hs0_0 (fun k_ hk => .inl hk))
 have HB := aA (Below.refl w.heap.size w)
 have H : ((foghornref04_newest.f k l0_0).bind fun t259 => (if t259 = 0 then (some (([] : List ByteArray), 0, 0, 0, false, ([] : List ByteArray), false)) else (foghornref04_Boot.l0 k (([] : List ByteArray)) 0 l0_0 l0_0 t259 0 0 false))) = some (r1, r2, r3, r4, r5, r6, r7) := h
 clear h
 replace H := Option.bind_eq_some_iff.mp H
 obtain ⟨t259, A20, H⟩ := H
 replace H : (if t259 = 0 then (some (([] : List ByteArray), 0, 0, 0, false, ([] : List ByteArray), false)) else (foghornref04_Boot.l0 k (([] : List ByteArray)) 0 l0_0 l0_0 t259 0 0 false)) = some (r1, r2, r3, r4, r5, r6, r7) := H
 have A2 := aA A20
 clear A20
 by_cases c3 : t259 = 0
 ·rw [if_pos c3] at H
  have c3b0 : (t259 == 0) = true := beq_iff_eq.mpr c3
  have c3b1 : (t259 != 0) = false := bne_eq_false_iff_eq.mpr c3
  clear c3
  simp only [Option.some.injEq, Prod.mk.injEq] at H
  obtain ⟨rfl, rfl, rfl, rfl, rfl, rfl, rfl⟩ := H
  go_enter Try.func19, Try.ntmps19
  try go_wp2_with (first | ((with_reducible refine gate_dst (N := 1) rfl ?_); refine box_event ?hg (N := 1) ?hd (cs := #[.slice A0_0 l0_0.length c0_0]) (t := 24) ?hr ?_; (case hd => rfl); (case hg => rfl); (case hr => first | (go_simp; done) | (go_simp; rfl)); intro gb257 hg w4 hbox hb; have n0_ := aA (Kd.V_below (Kd.V_elderB (by (with_reducible repeat (first | apply Kd.V_alloc | apply Kd.V_drewN | apply Kd.V_drew)); exact HO0_0.out) gb257 (Nat.le_of_eq hg.symm)) hb); have n1_ := aA (below_step mB hb); have n2_ := aA (hbox); have n3_ := aA ((bZ hg mB)); have n4_ := aA ((bZ hg mB)); clear HO0_0 HB; have HO0_0 := n0_; have HB := n1_; have BK257 := n2_; have GW257 := n3_; have GE257 := n4_; clear n0_ n1_ n2_ n3_ n4_ hb hbox hg) | ((with_reducible refine gate_dst (N := 2) rfl ?_); refine box_event ?hg (N := 2) ?hd (cs := #[.slice none 0 0, .int .i64 0, .int .i64 0, .int .i64 0, .bool false]) (t := 26) ?hr ?_; (case hd => rfl); (case hg => rfl); (case hr => first | (go_simp; done) | (go_simp; rfl)); intro gb258 hg w5 hbox hb; have n0_ := aA (Kd.V_below (Kd.V_elderB (by (with_reducible repeat (first | apply Kd.V_alloc | apply Kd.V_drewN | apply Kd.V_drew)); exact HO0_0.out) gb258 (Nat.le_of_eq hg.symm)) hb); have n1_ := aA (bB BK257.out hb); have n2_ := aA (below_step (mD1 GE257.out) hb); have n3_ := aA (hbox); have n4_ := aA ((bZ hg (mD1 GE257.out))); have n5_ := aA ((bZ hg (mD1 GE257.out))); have n6_ := aA ((bL hg BK257.out)); have n7_ := aA ((bG hg BK257.out)); clear HO0_0 BK257 HB; have HO0_0 := n0_; have BK257 := n1_; have HB := n2_; have BK258 := n3_; have GW258 := n4_; have GE258 := n5_; have NB257_258 := n6_; have NB258_257 := n7_; clear n0_ n1_ n2_ n3_ n4_ n5_ n6_ n7_ hb hbox hg))
  have n0_ := aA (Kd.V_drew HO0_0.out)
  have n1_ := aA (blk_drew BK257.out)
  have n2_ := aA (blk_drew BK258.out)
  have n3_ := aA (below_drew1 HB.out)
  clear HO0_0
  clear BK257
  clear BK258
  clear HB
  have HO0_0 := n0_
  have BK257 := n1_
  have BK258 := n2_
  have HB := n3_
  clear n0_ n1_ n2_ n3_
  refine start_ (n := 6) (S := fun w' => w'.cell? ⟨gb257, 0, none⟩ = some (.slice A0_0 l0_0.length c0_0)) (ds := []) #[false, false, false, false, false, false] (by kernel_rfl) rfl rfl ((blk_cell BK257.out 0).trans rfl) (fun hHeld => ?_)
  generalize w5.drew = w6 at HO0_0 BK257 BK258 HB hHeld ⊢
  refine take_ (i := 0) (N := some 13) (v := ?_) (a' := ?_) #[true, false, false, false, false, false] rfl rfl (by kernel_rfl) (fun _ _ _ h => h) (Or.inl ⟨by rfl, ?_⟩) hHeld ?_ ?_
  rotate_left
  ·intro w' s0
   go_simp
   with_reducible rfl
  rotate_left
  ·exact mP
  refine take_ (i := 1) (N := some 14) (v := ?_) (a' := ?_) #[true, true, false, false, false, false] rfl rfl (by kernel_rfl) (fun _ _ _ h => h) (Or.inl ⟨by rfl, ?_⟩) hHeld ?_ ?_
  rotate_left
  ·intro w' s0
   go_simp
   with_reducible rfl
  rotate_left
  ·exact mP
  refine join_ (σ := Nat) 1 #[true, true, true, true, true, false] (fun s_ => [(15, .int .i64 t259), (5, .pointer (some ⟨s_, 0, none⟩)), (16, .agg #[.slice A0_0 l0_0.length c0_0, .int .i64 t259, .int .i64 0, .int .i64 0, .bool false])]) (fun s_ w' => (w'.cell? ⟨gb257, 0, none⟩ = some (.slice A0_0 l0_0.length c0_0)) ∧ (Kd.V Kd.string 9 w' w.heap.size (fun k_ => (P0_0_ k_ ∨ w.heap.size ≤ k_) ∧ k_ ≠ gb257 ∧ k_ ≠ gb258 ∧ k_ ≠ s_) (.slice A0_0 l0_0.length c0_0) l0_0) ∧ (w'.heap[gb257]? = some (.cells #[.slice A0_0 l0_0.length c0_0] 24 (0, 0))) ∧ (w'.heap[gb258]? = some (.cells #[.slice none 0 0, .int .i64 0, .int .i64 0, .int .i64 0, .bool false] 26 (0, 0))) ∧ (w'.heap[s_]? = some (.cells #[.slice none 0 0, .int .i64 0, .int .i64 0, .int .i64 0, .bool false] 26 (0, 0))) ∧ (w.heap.size ≤ s_) ∧ (w.heap.size ≤ s_) ∧ (gb257 ≠ s_) ∧ (s_ ≠ gb257) ∧ (gb258 ≠ s_) ∧ (s_ ≠ gb258) ∧ (Below w.heap.size w w')) ?_ ?_
  rotate_left
  ·intro hCont
   refine two_ (i := 2) (j := 4) (Ni := some 15) (Nj := some 5) #[true, true, true, false, false, false] #[true, true, false, false, true, false] rfl rfl rfl rfl (by kernel_rfl) (by decide) (by decide) (fun K hK => ?_) (fun K hK => ?_)
   ·skip
    refine goes_ Try.func44 (by kernel_rfl) rfl #[.agg #[.slice A0_0 l0_0.length c0_0]] (by rfl) rfl rfl mS ?_
    with_reducible refine (foghornref04_newest.calls k _ _ l0_0 t259 _ ?side1 ?side2 A2.out).mono ?_
    (case side1 => exact mC ((Kd.V_reads' HO0_0.out).2.2))
    (case side2 => exact (Kd.V_reads' HO0_0.out).2.1)
    rintro e w7 ⟨rfl, hb⟩
    refine ⟨_, rfl, ?_⟩
    have n0_ := aA (Kd.V_below (by (with_reducible repeat (first | apply Kd.V_alloc | apply Kd.V_drewN | apply Kd.V_drew)); exact HO0_0.out) hb)
    have n1_ := aA (bB BK257.out hb)
    have n2_ := aA (bB BK258.out hb)
    have n3_ := aA (below_step (mD2 GE257.out GE258.out) hb)
    clear HO0_0
    clear BK257
    clear BK258
    clear HB
    have HO0_0 := n0_
    have BK257 := n1_
    have BK258 := n2_
    have HB := n3_
    clear n0_ n1_ n2_ n3_
    (try clear hb)
    (try clear hb2)
    (try clear hk)
    (try clear hi)
    refine hK.out _ _ ((blk_cell BK257.out 0).trans rfl) (fun hHeld => ?_)
    clear hK K
    refine norm_ (a' := ?_) ?_ ?_
    rotate_left
    ·show Act.put _ (some 15) _ = _
     simp only [Act.put, List.setIfInBounds_toArray, List.set_cons_zero, List.set_cons_succ, i64_w, i32_w]
     rfl
    refine pure_ (i := 3) (N := some 16) (v := ?_) (a' := ?_) #[true, true, true, true, false, false] rfl rfl (by kernel_rfl) (fun _ _ _ h => h) (Or.inl ⟨by rfl, ?_⟩) ?_ ?_
    rotate_left
    ·intro w'
     go_simp
     with_reducible rfl
    rotate_left
    ·exact mP
    refine one_ (i := 4) (N := some 5) #[true, true, true, true, true, false] rfl rfl (by kernel_rfl) (by decide) (fun K hK => ?_)
    refine box_step ?hg (N := 5) ?hd (cs := #[.slice none 0 0, .int .i64 0, .int .i64 0, .int .i64 0, .bool false]) (t := 26) ?hr ?_; (case hd => rfl); (case hg => rfl); (case hr => first | (go_simp; done) | (go_simp; rfl))
    intro gb260 hg w8 hbox hb
    have n0_ := aA (Kd.V_below (Kd.V_elderB (by (with_reducible repeat (first | apply Kd.V_alloc | apply Kd.V_drewN | apply Kd.V_drew)); exact HO0_0.out) gb260 (Nat.le_of_eq hg.symm)) hb)
    have n1_ := aA (bB BK257.out hb)
    have n2_ := aA (bB BK258.out hb)
    have n3_ := aA (below_step (mD2 GE257.out GE258.out) hb)
    have n4_ := aA (hbox)
    have n5_ := aA ((bZ hg (mD2 GE257.out GE258.out)))
    have n6_ := aA ((bZ hg (mD2 GE257.out GE258.out)))
    have n7_ := aA ((bL hg BK257.out))
    have n8_ := aA ((bG hg BK257.out))
    have n9_ := aA ((bL hg BK258.out))
    have n10_ := aA ((bG hg BK258.out))
    clear HO0_0
    clear BK257
    clear BK258
    clear HB
    have HO0_0 := n0_
    have BK257 := n1_
    have BK258 := n2_
    have HB := n3_
    have BK260 := n4_
    have GW260 := n5_
    have GE260 := n6_
    have NB257_260 := n7_
    have NB260_257 := n8_
    have NB258_260 := n9_
    have NB260_258 := n10_
    clear n0_ n1_ n2_ n3_ n4_ n5_ n6_ n7_ n8_ n9_ n10_
    clear hb hbox hg
    refine hK.out _ _ ((blk_cell BK257.out 0).trans rfl) (fun hHeld => ?_)
    clear hK K
    refine norm_ (a' := ?_) ?_ ?_
    rotate_left
    ·show Act.put _ (some 5) _ = _
     simp only [Act.put, List.setIfInBounds_toArray, List.set_cons_zero, List.set_cons_succ, i64_w, i32_w]
     rfl
    exact norm_ (by simp only [putAll, Act.put, List.setIfInBounds_toArray, List.set_cons_zero, List.set_cons_succ]) (hCont (gb260) _ ⟨hHeld, (by (with_reducible repeat (first | apply Kd.V_alloc | apply Kd.V_drewN | apply Kd.V_drew)); exact Kd.V_mono HO0_0.out (fun _ hk => ⟨hk.1.1.1, ⟨hk.1.1.2, ⟨hk.1.2, hk.2⟩⟩⟩)), (mK BK257.out), (mK BK258.out), (mK BK260.out), GW260.out, GE260.out, NB257_260.out, NB260_257.out, NB258_260.out, NB260_258.out, (mD3 GE257.out GE258.out GE260.out)⟩)
   ·skip
    refine box_step ?hg (N := 5) ?hd (cs := #[.slice none 0 0, .int .i64 0, .int .i64 0, .int .i64 0, .bool false]) (t := 26) ?hr ?_; (case hd => rfl); (case hg => rfl); (case hr => first | (go_simp; done) | (go_simp; rfl))
    intro gb260 hg w7 hbox hb
    have n0_ := aA (Kd.V_below (Kd.V_elderB (by (with_reducible repeat (first | apply Kd.V_alloc | apply Kd.V_drewN | apply Kd.V_drew)); exact HO0_0.out) gb260 (Nat.le_of_eq hg.symm)) hb)
    have n1_ := aA (bB BK257.out hb)
    have n2_ := aA (bB BK258.out hb)
    have n3_ := aA (below_step (mD2 GE257.out GE258.out) hb)
    have n4_ := aA (hbox)
    have n5_ := aA ((bZ hg (mD2 GE257.out GE258.out)))
    have n6_ := aA ((bZ hg (mD2 GE257.out GE258.out)))
    have n7_ := aA ((bL hg BK257.out))
    have n8_ := aA ((bG hg BK257.out))
    have n9_ := aA ((bL hg BK258.out))
    have n10_ := aA ((bG hg BK258.out))
    clear HO0_0
    clear BK257
    clear BK258
    clear HB
    have HO0_0 := n0_
    have BK257 := n1_
    have BK258 := n2_
    have HB := n3_
    have BK260 := n4_
    have GW260 := n5_
    have GE260 := n6_
    have NB257_260 := n7_
    have NB260_257 := n8_
    have NB258_260 := n9_
    have NB260_258 := n10_
    clear n0_ n1_ n2_ n3_ n4_ n5_ n6_ n7_ n8_ n9_ n10_
    clear hb hbox hg
    refine hK.out _ _ ((blk_cell BK257.out 0).trans rfl) (fun hHeld => ?_)
    clear hK K
    refine norm_ (a' := ?_) ?_ ?_
    rotate_left
    ·show Act.put _ (some 5) _ = _
     simp only [Act.put, List.setIfInBounds_toArray, List.set_cons_zero, List.set_cons_succ, i64_w, i32_w]
     rfl
    refine one_ (i := 2) (N := some 15) #[true, true, true, false, true, false] rfl rfl (by kernel_rfl) (by decide) (fun K hK => ?_)
    refine goes_ Try.func44 (by kernel_rfl) rfl #[.agg #[.slice A0_0 l0_0.length c0_0]] (by rfl) rfl rfl mS ?_
    with_reducible refine (foghornref04_newest.calls k _ _ l0_0 t259 _ ?side1 ?side2 A2.out).mono ?_
    (case side1 => exact mC ((Kd.V_reads' HO0_0.out).2.2))
    (case side2 => exact (Kd.V_reads' HO0_0.out).2.1)
    rintro e w8 ⟨rfl, hb⟩
    refine ⟨_, rfl, ?_⟩
    have n0_ := aA (Kd.V_below (by (with_reducible repeat (first | apply Kd.V_alloc | apply Kd.V_drewN | apply Kd.V_drew)); exact HO0_0.out) hb)
    have n1_ := aA (bB BK257.out hb)
    have n2_ := aA (bB BK258.out hb)
    have n3_ := aA (bB BK260.out hb)
    have n4_ := aA (below_step (mD3 GE257.out GE258.out GE260.out) hb)
    clear HO0_0
    clear BK257
    clear BK258
    clear BK260
    clear HB
    have HO0_0 := n0_
    have BK257 := n1_
    have BK258 := n2_
    have BK260 := n3_
    have HB := n4_
    clear n0_ n1_ n2_ n3_ n4_
    (try clear hb)
    (try clear hb2)
    (try clear hk)
    (try clear hi)
    refine hK.out _ _ ((blk_cell BK257.out 0).trans rfl) (fun hHeld => ?_)
    clear hK K
    refine norm_ (a' := ?_) ?_ ?_
    rotate_left
    ·show Act.put _ (some 15) _ = _
     simp only [Act.put, List.setIfInBounds_toArray, List.set_cons_zero, List.set_cons_succ, i64_w, i32_w]
     rfl
    refine pure_ (i := 3) (N := some 16) (v := ?_) (a' := ?_) #[true, true, true, true, true, false] rfl rfl (by kernel_rfl) (fun _ _ _ h => h) (Or.inl ⟨by rfl, ?_⟩) ?_ ?_
    rotate_left
    ·intro w'
     go_simp
     with_reducible rfl
    rotate_left
    ·exact mP
    exact norm_ (by simp only [putAll, Act.put, List.setIfInBounds_toArray, List.set_cons_zero, List.set_cons_succ]) (hCont (gb260) _ ⟨hHeld, (by (with_reducible repeat (first | apply Kd.V_alloc | apply Kd.V_drewN | apply Kd.V_drew)); exact Kd.V_mono HO0_0.out (fun _ hk => ⟨hk.1.1.1, ⟨hk.1.1.2, ⟨hk.1.2, hk.2⟩⟩⟩)), (mK BK257.out), (mK BK258.out), (mK BK260.out), GW260.out, GE260.out, NB257_260.out, NB260_257.out, NB258_260.out, NB260_258.out, (mD3 GE257.out GE258.out GE260.out)⟩)
  rintro gb260 w9 ⟨hS_, h0_, h1_, h2_, h3_, h4_, h5_, h6_, h7_, h8_, h9_, h10_⟩
  have n0_ : Aside0 (Kd.V Kd.string 9 w9 w.heap.size (fun k_ => (P0_0_ k_ ∨ w.heap.size ≤ k_) ∧ k_ ≠ gb257 ∧ k_ ≠ gb258 ∧ k_ ≠ gb260) (.slice A0_0 l0_0.length c0_0) l0_0) := ⟨h0_⟩
  have n1_ : Aside0 (w9.heap[gb257]? = some (.cells #[.slice A0_0 l0_0.length c0_0] 24 (0, 0))) := ⟨h1_⟩
  have n2_ : Aside0 (w9.heap[gb258]? = some (.cells #[.slice none 0 0, .int .i64 0, .int .i64 0, .int .i64 0, .bool false] 26 (0, 0))) := ⟨h2_⟩
  have n3_ : Aside0 (w9.heap[gb260]? = some (.cells #[.slice none 0 0, .int .i64 0, .int .i64 0, .int .i64 0, .bool false] 26 (0, 0))) := ⟨h3_⟩
  have n4_ : Aside0 (w.heap.size ≤ gb260) := ⟨h4_⟩
  have n5_ : Aside0 (w.heap.size ≤ gb260) := ⟨h5_⟩
  have n6_ : Aside0 (gb257 ≠ gb260) := ⟨h6_⟩
  have n7_ : Aside0 (gb260 ≠ gb257) := ⟨h7_⟩
  have n8_ : Aside0 (gb258 ≠ gb260) := ⟨h8_⟩
  have n9_ : Aside0 (gb260 ≠ gb258) := ⟨h9_⟩
  have n10_ : Aside0 (Below w.heap.size w w9) := ⟨h10_⟩
  clear HO0_0
  clear BK257
  clear BK258
  clear HB
  clear h0_ h1_ h2_ h3_ h4_ h5_ h6_ h7_ h8_ h9_ h10_
  have HO0_0 := n0_
  have BK257 := n1_
  have BK258 := n2_
  have BK260 := n3_
  have GW260 := n4_
  have GE260 := n5_
  have NB257_260 := n6_
  have NB260_257 := n7_
  have NB258_260 := n8_
  have NB260_258 := n9_
  have HB := n10_
  clear n0_ n1_ n2_ n3_ n4_ n5_ n6_ n7_ n8_ n9_ n10_
  have hHeld : w9.cell? ⟨gb257, 0, none⟩ = some (.slice A0_0 l0_0.length c0_0) := hS_
  refine norm_ (a' := ?_) ?_ ?_
  rotate_left
  ·simp only [putAll, Act.put, List.setIfInBounds_toArray, List.set_cons_zero, List.set_cons_succ]
   rfl
  refine one_ (i := 5) (N := none) #[true, true, true, true, true, true] rfl rfl (by kernel_rfl) (by decide) (fun K hK => ?_)
  have hs10 : w9.cell? ⟨gb260, 0, none⟩ = some (.slice none 0 0) := (blk_cell BK260.out 0).trans rfl
  have hfs10 := blk_frozen BK260.out 0
  have hns10_0 := NB257_260.out
  have hns10_1 := NB258_260.out
  have hms10_0 := NB260_257.out
  have hms10_1 := NB260_258.out
  have hs11 : w9.cell? ⟨gb260, 1, none⟩ = some (.int .i64 0) := (blk_cell BK260.out 1).trans rfl
  have hfs11 := blk_frozen BK260.out 1
  have hns11_0 := NB257_260.out
  have hns11_1 := NB258_260.out
  have hms11_0 := NB260_257.out
  have hms11_1 := NB260_258.out
  have hs12 : w9.cell? ⟨gb260, 2, none⟩ = some (.int .i64 0) := (blk_cell BK260.out 2).trans rfl
  have hfs12 := blk_frozen BK260.out 2
  have hns12_0 := NB257_260.out
  have hns12_1 := NB258_260.out
  have hms12_0 := NB260_257.out
  have hms12_1 := NB260_258.out
  have hs13 : w9.cell? ⟨gb260, 3, none⟩ = some (.int .i64 0) := (blk_cell BK260.out 3).trans rfl
  have hfs13 := blk_frozen BK260.out 3
  have hns13_0 := NB257_260.out
  have hns13_1 := NB258_260.out
  have hms13_0 := NB260_257.out
  have hms13_1 := NB260_258.out
  have hs14 : w9.cell? ⟨gb260, 4, none⟩ = some (.bool false) := (blk_cell BK260.out 4).trans rfl
  have hfs14 := blk_frozen BK260.out 4
  have hns14_0 := NB257_260.out
  have hns14_1 := NB258_260.out
  have hms14_0 := NB260_257.out
  have hms14_1 := NB260_258.out
  refine skip_ (w1 := ?_) (by rfl) rfl ?_ ?_
  rotate_left
  ·go_simp
   rfl
  refine hK.out _ _ (((cell_far (p := ⟨gb260, _, none⟩) NB257_260.out _).trans (((cell_far (p := ⟨gb260, _, none⟩) NB257_260.out _).trans (((cell_far (p := ⟨gb260, _, none⟩) NB257_260.out _).trans (((cell_far (p := ⟨gb260, _, none⟩) NB257_260.out _).trans (((cell_far (p := ⟨gb260, _, none⟩) NB257_260.out _).trans (hHeld))))))))))) (fun hHeld => ?_)
  clear hK K
  refine done_ (by kernel_rfl) ?_
  have hnb15 := NB260_257.out
  have hnc15 := NB257_260.out
  have hnb16 := NB260_258.out
  have hnc16 := NB258_260.out
  obtain ⟨hcz17_0, hcz17_1, hcz17_2, hcz17_3, hcz17_4⟩ := bC5 BK260.out
  obtain ⟨hfz17_0, hfz17_1, hfz17_2, hfz17_3, hfz17_4⟩ := bF5 BK260.out
  have hnb18 := NB258_257.out
  have hnc18 := NB257_258.out
  obtain ⟨hcz19_0, hcz19_1, hcz19_2, hcz19_3, hcz19_4⟩ := bC5 BK258.out
  obtain ⟨hfz19_0, hfz19_1, hfz19_2, hfz19_3, hfz19_4⟩ := bF5 BK258.out
  try go_wp2
  refine bodyPost_ret (results_ctt rfl _ _ gb258 26 #[.slice none 0 0, .int .i64 0, .int .i64 0, .int .i64 0, .bool false] (0, 0) _ rfl (by (with_reducible repeat (first | refine blk_drewN ?_ _ | refine blk_drew ?_ | refine blk_alloc ?_ _)); refine blk_put (cs := #[.slice none 0 0, .int .i64 0, .int .i64 0, .int .i64 0, .bool false]) ?_ 4 _ rfl; (with_reducible repeat (first | refine blk_drewN ?_ _ | refine blk_drew ?_ | refine blk_alloc ?_ _)); refine blk_put (cs := #[.slice none 0 0, .int .i64 0, .int .i64 0, .int .i64 0, .bool false]) ?_ 3 _ rfl; (with_reducible repeat (first | refine blk_drewN ?_ _ | refine blk_drew ?_ | refine blk_alloc ?_ _)); refine blk_put (cs := #[.slice none 0 0, .int .i64 0, .int .i64 0, .int .i64 0, .bool false]) ?_ 2 _ rfl; (with_reducible repeat (first | refine blk_drewN ?_ _ | refine blk_drew ?_ | refine blk_alloc ?_ _)); refine blk_put (cs := #[.slice none 0 0, .int .i64 0, .int .i64 0, .int .i64 0, .bool false]) ?_ 1 _ rfl; (with_reducible repeat (first | refine blk_drewN ?_ _ | refine blk_drew ?_ | refine blk_alloc ?_ _)); refine blk_put (cs := #[.slice none 0 0, .int .i64 0, .int .i64 0, .int .i64 0, .bool false]) ?_ 0 _ rfl; (with_reducible repeat (first | refine blk_drewN ?_ _ | refine blk_drew ?_ | refine blk_alloc ?_ _)); refine blk_far ?_ NB258_260.out _; (with_reducible repeat (first | refine blk_drewN ?_ _ | refine blk_drew ?_ | refine blk_alloc ?_ _)); refine blk_far ?_ NB258_260.out _; (with_reducible repeat (first | refine blk_drewN ?_ _ | refine blk_drew ?_ | refine blk_alloc ?_ _)); refine blk_far ?_ NB258_260.out _; (with_reducible repeat (first | refine blk_drewN ?_ _ | refine blk_drew ?_ | refine blk_alloc ?_ _)); refine blk_far ?_ NB258_260.out _; (with_reducible repeat (first | refine blk_drewN ?_ _ | refine blk_drew ?_ | refine blk_alloc ?_ _)); refine blk_far ?_ NB258_260.out _; (with_reducible repeat (first | refine blk_drewN ?_ _ | refine blk_drew ?_ | refine blk_alloc ?_ _)); exact BK258.out) Try.underlying26 rfl (by kernel_rfl)) rfl ?_
  exact ⟨_, _, by first | rfl | (simp [errW_none, errW_some] <;> rfl) | (simp [*, errW_none, errW_some] <;> rfl), Kd.V_nil _ _ _ _ _, by first | exact Kd.R_nil _ _ _ _ _ | exact Kd.N_nil _ _ _ _ _ | exact Kd.V_nil _ _ _ _ _ | exact Kd.Q_nil _ _ _ _ _ | exact Kd.S_nil _ _ _ _ _, by repeat (first | (with_reducible first | exact HB.out | apply below_alloc | apply pw_below_drewN | apply below_drew1 | refine below_set ?_ GE257.out | refine below_set ?_ GE258.out | refine below_set ?_ GE260.out) | exact HB.out)⟩
 ·rw [if_neg c3] at H
  have c3b0 : (t259 == 0) = false := beq_eq_false_iff_ne.mpr c3
  have c3b1 : (t259 != 0) = true := bne_iff_ne.mpr c3
  obtain ⟨y261, hy261⟩ : ∃ y_ : List ByteArray, y_ = (([] : List ByteArray)) := ⟨_, rfl⟩
  replace H : (foghornref04_Boot.l0 k y261 0 l0_0 l0_0 t259 0 0 false) = some (r1, r2, r3, r4, r5, r6, r7) := by first | (rw [hy261]; with_reducible exact H) | (have H2_ := (Option.bind_some _ _).symm.trans H; rw [hy261]; with_reducible exact H2_) | (have H2_ := (Option.bind_some _ _).symm.trans H; with_reducible exact H2_) | with_reducible exact H | (rw [hy261]; exact H) | exact H
  have Ny261 := aA hy261
  clear hy261
  have HC20 := aA H
  clear H
  go_enter Try.func19, Try.ntmps19
  try go_wp2_with (first | ((with_reducible refine gate_dst (N := 1) rfl ?_); refine box_event ?hg (N := 1) ?hd (cs := #[.slice A0_0 l0_0.length c0_0]) (t := 24) ?hr ?_; (case hd => rfl); (case hg => rfl); (case hr => first | (go_simp; done) | (go_simp; rfl)); intro gb257 hg w21 hbox hb; have n0_ := aA (Kd.V_below (Kd.V_elderB (by (with_reducible repeat (first | apply Kd.V_alloc | apply Kd.V_drewN | apply Kd.V_drew)); exact HO0_0.out) gb257 (Nat.le_of_eq hg.symm)) hb); have n1_ := aA (below_step mB hb); have n2_ := aA (hbox); have n3_ := aA ((bZ hg mB)); have n4_ := aA ((bZ hg mB)); clear HO0_0 HB; have HO0_0 := n0_; have HB := n1_; have BK257 := n2_; have GW257 := n3_; have GE257 := n4_; clear n0_ n1_ n2_ n3_ n4_ hb hbox hg) | ((with_reducible refine gate_dst (N := 2) rfl ?_); refine box_event ?hg (N := 2) ?hd (cs := #[.slice none 0 0, .int .i64 0, .int .i64 0, .int .i64 0, .bool false]) (t := 26) ?hr ?_; (case hd => rfl); (case hg => rfl); (case hr => first | (go_simp; done) | (go_simp; rfl)); intro gb258 hg w22 hbox hb; have n0_ := aA (Kd.V_below (Kd.V_elderB (by (with_reducible repeat (first | apply Kd.V_alloc | apply Kd.V_drewN | apply Kd.V_drew)); exact HO0_0.out) gb258 (Nat.le_of_eq hg.symm)) hb); have n1_ := aA (bB BK257.out hb); have n2_ := aA (below_step (mD1 GE257.out) hb); have n3_ := aA (hbox); have n4_ := aA ((bZ hg (mD1 GE257.out))); have n5_ := aA ((bZ hg (mD1 GE257.out))); have n6_ := aA ((bL hg BK257.out)); have n7_ := aA ((bG hg BK257.out)); clear HO0_0 BK257 HB; have HO0_0 := n0_; have BK257 := n1_; have HB := n2_; have BK258 := n3_; have GW258 := n4_; have GE258 := n5_; have NB257_258 := n6_; have NB258_257 := n7_; clear n0_ n1_ n2_ n3_ n4_ n5_ n6_ n7_ hb hbox hg))
  have n0_ := aA (Kd.V_drew HO0_0.out)
  have n1_ := aA (blk_drew BK257.out)
  have n2_ := aA (blk_drew BK258.out)
  have n3_ := aA (below_drew1 HB.out)
  clear HO0_0
  clear BK257
  clear BK258
  clear HB
  have HO0_0 := n0_
  have BK257 := n1_
  have BK258 := n2_
  have HB := n3_
  clear n0_ n1_ n2_ n3_
  refine start_ (n := 6) (S := fun w' => w'.cell? ⟨gb257, 0, none⟩ = some (.slice A0_0 l0_0.length c0_0)) (ds := []) #[false, false, false, false, false, false] (by kernel_rfl) rfl rfl ((blk_cell BK257.out 0).trans rfl) (fun hHeld => ?_)
  generalize w22.drew = w23 at HO0_0 BK257 BK258 HB hHeld ⊢
  refine take_ (i := 0) (N := some 13) (v := ?_) (a' := ?_) #[true, false, false, false, false, false] rfl rfl (by kernel_rfl) (fun _ _ _ h => h) (Or.inl ⟨by rfl, ?_⟩) hHeld ?_ ?_
  rotate_left
  ·intro w' s0
   go_simp
   with_reducible rfl
  rotate_left
  ·exact mP
  refine take_ (i := 1) (N := some 14) (v := ?_) (a' := ?_) #[true, true, false, false, false, false] rfl rfl (by kernel_rfl) (fun _ _ _ h => h) (Or.inl ⟨by rfl, ?_⟩) hHeld ?_ ?_
  rotate_left
  ·intro w' s0
   go_simp
   with_reducible rfl
  rotate_left
  ·exact mP
  refine join_ (σ := Nat) 1 #[true, true, true, true, true, false] (fun s_ => [(15, .int .i64 t259), (5, .pointer (some ⟨s_, 0, none⟩)), (16, .agg #[.slice A0_0 l0_0.length c0_0, .int .i64 t259, .int .i64 0, .int .i64 0, .bool false])]) (fun s_ w' => (w'.cell? ⟨gb257, 0, none⟩ = some (.slice A0_0 l0_0.length c0_0)) ∧ (Kd.V Kd.string 9 w' w.heap.size (fun k_ => (P0_0_ k_ ∨ w.heap.size ≤ k_) ∧ k_ ≠ gb257 ∧ k_ ≠ gb258 ∧ k_ ≠ s_) (.slice A0_0 l0_0.length c0_0) l0_0) ∧ (w'.heap[gb257]? = some (.cells #[.slice A0_0 l0_0.length c0_0] 24 (0, 0))) ∧ (w'.heap[gb258]? = some (.cells #[.slice none 0 0, .int .i64 0, .int .i64 0, .int .i64 0, .bool false] 26 (0, 0))) ∧ (w'.heap[s_]? = some (.cells #[.slice none 0 0, .int .i64 0, .int .i64 0, .int .i64 0, .bool false] 26 (0, 0))) ∧ (w.heap.size ≤ s_) ∧ (w.heap.size ≤ s_) ∧ (gb257 ≠ s_) ∧ (s_ ≠ gb257) ∧ (gb258 ≠ s_) ∧ (s_ ≠ gb258) ∧ (Below w.heap.size w w')) ?_ ?_
  rotate_left
  ·intro hCont
   refine two_ (i := 2) (j := 4) (Ni := some 15) (Nj := some 5) #[true, true, true, false, false, false] #[true, true, false, false, true, false] rfl rfl rfl rfl (by kernel_rfl) (by decide) (by decide) (fun K hK => ?_) (fun K hK => ?_)
   ·skip
    refine goes_ Try.func44 (by kernel_rfl) rfl #[.agg #[.slice A0_0 l0_0.length c0_0]] (by rfl) rfl rfl mS ?_
    with_reducible refine (foghornref04_newest.calls k _ _ l0_0 t259 _ ?side1 ?side2 A2.out).mono ?_
    (case side1 => exact mC ((Kd.V_reads' HO0_0.out).2.2))
    (case side2 => exact (Kd.V_reads' HO0_0.out).2.1)
    rintro e w24 ⟨rfl, hb⟩
    refine ⟨_, rfl, ?_⟩
    have n0_ := aA (Kd.V_below (by (with_reducible repeat (first | apply Kd.V_alloc | apply Kd.V_drewN | apply Kd.V_drew)); exact HO0_0.out) hb)
    have n1_ := aA (bB BK257.out hb)
    have n2_ := aA (bB BK258.out hb)
    have n3_ := aA (below_step (mD2 GE257.out GE258.out) hb)
    clear HO0_0
    clear BK257
    clear BK258
    clear HB
    have HO0_0 := n0_
    have BK257 := n1_
    have BK258 := n2_
    have HB := n3_
    clear n0_ n1_ n2_ n3_
    (try clear hb)
    (try clear hb2)
    (try clear hk)
    (try clear hi)
    refine hK.out _ _ ((blk_cell BK257.out 0).trans rfl) (fun hHeld => ?_)
    clear hK K
    refine norm_ (a' := ?_) ?_ ?_
    rotate_left
    ·show Act.put _ (some 15) _ = _
     simp only [Act.put, List.setIfInBounds_toArray, List.set_cons_zero, List.set_cons_succ, i64_w, i32_w]
     rfl
    refine pure_ (i := 3) (N := some 16) (v := ?_) (a' := ?_) #[true, true, true, true, false, false] rfl rfl (by kernel_rfl) (fun _ _ _ h => h) (Or.inl ⟨by rfl, ?_⟩) ?_ ?_
    rotate_left
    ·intro w'
     go_simp
     with_reducible rfl
    rotate_left
    ·exact mP
    refine one_ (i := 4) (N := some 5) #[true, true, true, true, true, false] rfl rfl (by kernel_rfl) (by decide) (fun K hK => ?_)
    refine box_step ?hg (N := 5) ?hd (cs := #[.slice none 0 0, .int .i64 0, .int .i64 0, .int .i64 0, .bool false]) (t := 26) ?hr ?_; (case hd => rfl); (case hg => rfl); (case hr => first | (go_simp; done) | (go_simp; rfl))
    intro gb260 hg w25 hbox hb
    have n0_ := aA (Kd.V_below (Kd.V_elderB (by (with_reducible repeat (first | apply Kd.V_alloc | apply Kd.V_drewN | apply Kd.V_drew)); exact HO0_0.out) gb260 (Nat.le_of_eq hg.symm)) hb)
    have n1_ := aA (bB BK257.out hb)
    have n2_ := aA (bB BK258.out hb)
    have n3_ := aA (below_step (mD2 GE257.out GE258.out) hb)
    have n4_ := aA (hbox)
    have n5_ := aA ((bZ hg (mD2 GE257.out GE258.out)))
    have n6_ := aA ((bZ hg (mD2 GE257.out GE258.out)))
    have n7_ := aA ((bL hg BK257.out))
    have n8_ := aA ((bG hg BK257.out))
    have n9_ := aA ((bL hg BK258.out))
    have n10_ := aA ((bG hg BK258.out))
    clear HO0_0
    clear BK257
    clear BK258
    clear HB
    have HO0_0 := n0_
    have BK257 := n1_
    have BK258 := n2_
    have HB := n3_
    have BK260 := n4_
    have GW260 := n5_
    have GE260 := n6_
    have NB257_260 := n7_
    have NB260_257 := n8_
    have NB258_260 := n9_
    have NB260_258 := n10_
    clear n0_ n1_ n2_ n3_ n4_ n5_ n6_ n7_ n8_ n9_ n10_
    clear hb hbox hg
    refine hK.out _ _ ((blk_cell BK257.out 0).trans rfl) (fun hHeld => ?_)
    clear hK K
    refine norm_ (a' := ?_) ?_ ?_
    rotate_left
    ·show Act.put _ (some 5) _ = _
     simp only [Act.put, List.setIfInBounds_toArray, List.set_cons_zero, List.set_cons_succ, i64_w, i32_w]
     rfl
    exact norm_ (by simp only [putAll, Act.put, List.setIfInBounds_toArray, List.set_cons_zero, List.set_cons_succ]) (hCont (gb260) _ ⟨hHeld, (by (with_reducible repeat (first | apply Kd.V_alloc | apply Kd.V_drewN | apply Kd.V_drew)); exact Kd.V_mono HO0_0.out (fun _ hk => ⟨hk.1.1.1, ⟨hk.1.1.2, ⟨hk.1.2, hk.2⟩⟩⟩)), (mK BK257.out), (mK BK258.out), (mK BK260.out), GW260.out, GE260.out, NB257_260.out, NB260_257.out, NB258_260.out, NB260_258.out, (mD3 GE257.out GE258.out GE260.out)⟩)
   ·skip
    refine box_step ?hg (N := 5) ?hd (cs := #[.slice none 0 0, .int .i64 0, .int .i64 0, .int .i64 0, .bool false]) (t := 26) ?hr ?_; (case hd => rfl); (case hg => rfl); (case hr => first | (go_simp; done) | (go_simp; rfl))
    intro gb260 hg w24 hbox hb
    have n0_ := aA (Kd.V_below (Kd.V_elderB (by (with_reducible repeat (first | apply Kd.V_alloc | apply Kd.V_drewN | apply Kd.V_drew)); exact HO0_0.out) gb260 (Nat.le_of_eq hg.symm)) hb)
    have n1_ := aA (bB BK257.out hb)
    have n2_ := aA (bB BK258.out hb)
    have n3_ := aA (below_step (mD2 GE257.out GE258.out) hb)
    have n4_ := aA (hbox)
    have n5_ := aA ((bZ hg (mD2 GE257.out GE258.out)))
    have n6_ := aA ((bZ hg (mD2 GE257.out GE258.out)))
    have n7_ := aA ((bL hg BK257.out))
    have n8_ := aA ((bG hg BK257.out))
    have n9_ := aA ((bL hg BK258.out))
    have n10_ := aA ((bG hg BK258.out))
    clear HO0_0
    clear BK257
    clear BK258
    clear HB
    have HO0_0 := n0_
    have BK257 := n1_
    have BK258 := n2_
    have HB := n3_
    have BK260 := n4_
    have GW260 := n5_
    have GE260 := n6_
    have NB257_260 := n7_
    have NB260_257 := n8_
    have NB258_260 := n9_
    have NB260_258 := n10_
    clear n0_ n1_ n2_ n3_ n4_ n5_ n6_ n7_ n8_ n9_ n10_
    clear hb hbox hg
    refine hK.out _ _ ((blk_cell BK257.out 0).trans rfl) (fun hHeld => ?_)
    clear hK K
    refine norm_ (a' := ?_) ?_ ?_
    rotate_left
    ·show Act.put _ (some 5) _ = _
     simp only [Act.put, List.setIfInBounds_toArray, List.set_cons_zero, List.set_cons_succ, i64_w, i32_w]
     rfl
    refine one_ (i := 2) (N := some 15) #[true, true, true, false, true, false] rfl rfl (by kernel_rfl) (by decide) (fun K hK => ?_)
    refine goes_ Try.func44 (by kernel_rfl) rfl #[.agg #[.slice A0_0 l0_0.length c0_0]] (by rfl) rfl rfl mS ?_
    with_reducible refine (foghornref04_newest.calls k _ _ l0_0 t259 _ ?side1 ?side2 A2.out).mono ?_
    (case side1 => exact mC ((Kd.V_reads' HO0_0.out).2.2))
    (case side2 => exact (Kd.V_reads' HO0_0.out).2.1)
    rintro e w25 ⟨rfl, hb⟩
    refine ⟨_, rfl, ?_⟩
    have n0_ := aA (Kd.V_below (by (with_reducible repeat (first | apply Kd.V_alloc | apply Kd.V_drewN | apply Kd.V_drew)); exact HO0_0.out) hb)
    have n1_ := aA (bB BK257.out hb)
    have n2_ := aA (bB BK258.out hb)
    have n3_ := aA (bB BK260.out hb)
    have n4_ := aA (below_step (mD3 GE257.out GE258.out GE260.out) hb)
    clear HO0_0
    clear BK257
    clear BK258
    clear BK260
    clear HB
    have HO0_0 := n0_
    have BK257 := n1_
    have BK258 := n2_
    have BK260 := n3_
    have HB := n4_
    clear n0_ n1_ n2_ n3_ n4_
    (try clear hb)
    (try clear hb2)
    (try clear hk)
    (try clear hi)
    refine hK.out _ _ ((blk_cell BK257.out 0).trans rfl) (fun hHeld => ?_)
    clear hK K
    refine norm_ (a' := ?_) ?_ ?_
    rotate_left
    ·show Act.put _ (some 15) _ = _
     simp only [Act.put, List.setIfInBounds_toArray, List.set_cons_zero, List.set_cons_succ, i64_w, i32_w]
     rfl
    refine pure_ (i := 3) (N := some 16) (v := ?_) (a' := ?_) #[true, true, true, true, true, false] rfl rfl (by kernel_rfl) (fun _ _ _ h => h) (Or.inl ⟨by rfl, ?_⟩) ?_ ?_
    rotate_left
    ·intro w'
     go_simp
     with_reducible rfl
    rotate_left
    ·exact mP
    exact norm_ (by simp only [putAll, Act.put, List.setIfInBounds_toArray, List.set_cons_zero, List.set_cons_succ]) (hCont (gb260) _ ⟨hHeld, (by (with_reducible repeat (first | apply Kd.V_alloc | apply Kd.V_drewN | apply Kd.V_drew)); exact Kd.V_mono HO0_0.out (fun _ hk => ⟨hk.1.1.1, ⟨hk.1.1.2, ⟨hk.1.2, hk.2⟩⟩⟩)), (mK BK257.out), (mK BK258.out), (mK BK260.out), GW260.out, GE260.out, NB257_260.out, NB260_257.out, NB258_260.out, NB260_258.out, (mD3 GE257.out GE258.out GE260.out)⟩)
  rintro gb260 w26 ⟨hS_, h0_, h1_, h2_, h3_, h4_, h5_, h6_, h7_, h8_, h9_, h10_⟩
  have n0_ : Aside0 (Kd.V Kd.string 9 w26 w.heap.size (fun k_ => (P0_0_ k_ ∨ w.heap.size ≤ k_) ∧ k_ ≠ gb257 ∧ k_ ≠ gb258 ∧ k_ ≠ gb260) (.slice A0_0 l0_0.length c0_0) l0_0) := ⟨h0_⟩
  have n1_ : Aside0 (w26.heap[gb257]? = some (.cells #[.slice A0_0 l0_0.length c0_0] 24 (0, 0))) := ⟨h1_⟩
  have n2_ : Aside0 (w26.heap[gb258]? = some (.cells #[.slice none 0 0, .int .i64 0, .int .i64 0, .int .i64 0, .bool false] 26 (0, 0))) := ⟨h2_⟩
  have n3_ : Aside0 (w26.heap[gb260]? = some (.cells #[.slice none 0 0, .int .i64 0, .int .i64 0, .int .i64 0, .bool false] 26 (0, 0))) := ⟨h3_⟩
  have n4_ : Aside0 (w.heap.size ≤ gb260) := ⟨h4_⟩
  have n5_ : Aside0 (w.heap.size ≤ gb260) := ⟨h5_⟩
  have n6_ : Aside0 (gb257 ≠ gb260) := ⟨h6_⟩
  have n7_ : Aside0 (gb260 ≠ gb257) := ⟨h7_⟩
  have n8_ : Aside0 (gb258 ≠ gb260) := ⟨h8_⟩
  have n9_ : Aside0 (gb260 ≠ gb258) := ⟨h9_⟩
  have n10_ : Aside0 (Below w.heap.size w w26) := ⟨h10_⟩
  clear HO0_0
  clear BK257
  clear BK258
  clear HB
  clear h0_ h1_ h2_ h3_ h4_ h5_ h6_ h7_ h8_ h9_ h10_
  have HO0_0 := n0_
  have BK257 := n1_
  have BK258 := n2_
  have BK260 := n3_
  have GW260 := n4_
  have GE260 := n5_
  have NB257_260 := n6_
  have NB260_257 := n7_
  have NB258_260 := n8_
  have NB260_258 := n9_
  have HB := n10_
  clear n0_ n1_ n2_ n3_ n4_ n5_ n6_ n7_ n8_ n9_ n10_
  have hHeld : w26.cell? ⟨gb257, 0, none⟩ = some (.slice A0_0 l0_0.length c0_0) := hS_
  refine norm_ (a' := ?_) ?_ ?_
  rotate_left
  ·simp only [putAll, Act.put, List.setIfInBounds_toArray, List.set_cons_zero, List.set_cons_succ]
   rfl
  refine one_ (i := 5) (N := none) #[true, true, true, true, true, true] rfl rfl (by kernel_rfl) (by decide) (fun K hK => ?_)
  have hs27 : w26.cell? ⟨gb260, 0, none⟩ = some (.slice none 0 0) := (blk_cell BK260.out 0).trans rfl
  have hfs27 := blk_frozen BK260.out 0
  have hns27_0 := NB257_260.out
  have hns27_1 := NB258_260.out
  have hms27_0 := NB260_257.out
  have hms27_1 := NB260_258.out
  have hs28 : w26.cell? ⟨gb260, 1, none⟩ = some (.int .i64 0) := (blk_cell BK260.out 1).trans rfl
  have hfs28 := blk_frozen BK260.out 1
  have hns28_0 := NB257_260.out
  have hns28_1 := NB258_260.out
  have hms28_0 := NB260_257.out
  have hms28_1 := NB260_258.out
  have hs29 : w26.cell? ⟨gb260, 2, none⟩ = some (.int .i64 0) := (blk_cell BK260.out 2).trans rfl
  have hfs29 := blk_frozen BK260.out 2
  have hns29_0 := NB257_260.out
  have hns29_1 := NB258_260.out
  have hms29_0 := NB260_257.out
  have hms29_1 := NB260_258.out
  have hs30 : w26.cell? ⟨gb260, 3, none⟩ = some (.int .i64 0) := (blk_cell BK260.out 3).trans rfl
  have hfs30 := blk_frozen BK260.out 3
  have hns30_0 := NB257_260.out
  have hns30_1 := NB258_260.out
  have hms30_0 := NB260_257.out
  have hms30_1 := NB260_258.out
  have hs31 : w26.cell? ⟨gb260, 4, none⟩ = some (.bool false) := (blk_cell BK260.out 4).trans rfl
  have hfs31 := blk_frozen BK260.out 4
  have hns31_0 := NB257_260.out
  have hns31_1 := NB258_260.out
  have hms31_0 := NB260_257.out
  have hms31_1 := NB260_258.out
  refine skip_ (w1 := ?_) (by rfl) rfl ?_ ?_
  rotate_left
  ·go_simp
   rfl
  refine hK.out _ _ (((cell_far (p := ⟨gb260, _, none⟩) NB257_260.out _).trans (((cell_far (p := ⟨gb260, _, none⟩) NB257_260.out _).trans (((cell_far (p := ⟨gb260, _, none⟩) NB257_260.out _).trans (((cell_far (p := ⟨gb260, _, none⟩) NB257_260.out _).trans (((cell_far (p := ⟨gb260, _, none⟩) NB257_260.out _).trans (hHeld))))))))))) (fun hHeld => ?_)
  clear hK K
  refine done_ (by kernel_rfl) ?_
  have hnb32 := NB260_257.out
  have hnc32 := NB257_260.out
  have hnb33 := NB260_258.out
  have hnc33 := NB258_260.out
  obtain ⟨hcz34_0, hcz34_1, hcz34_2, hcz34_3, hcz34_4⟩ := bC5 BK260.out
  obtain ⟨hfz34_0, hfz34_1, hfz34_2, hfz34_3, hfz34_4⟩ := bF5 BK260.out
  go_upto_block 0 with (first | ((with_reducible refine gate_dst (N := 21) rfl ?_); refine Kd.R_lit Kd.string _ 9 ?hg (N := 21) ?hd (xs := ([] : List ByteArray)) (inner := []) (ok := fun _ => True) (okp := fun _ => True) ?hr ?hp (fun _ hk => hk) trivial (Below.refl _ _) (Nat.le_refl _) (by simp) ?_; (case hd => rfl); (case hg => rfl); (case hr => first | (go_simp; done) | (go_simp; rfl)); (case hp => exact (Reps.none _ _)); intro v262 w35 ho36 hb hg_ hnew_; clear hg_ hnew_; (first | rw [← Ny261.out] at ho36 | (simp only [Int.reduceToNat] at ho36; rw [← Ny261.out] at ho36)); have n0_ := aA (Kd.V_elder' (by (with_reducible repeat (first | apply Kd.V_alloc | apply Kd.V_drewN | apply Kd.V_drew)); exact (Kd.V_mono (Kd.V_far (p := ⟨gb260, 4, none⟩) (Kd.V_far (p := ⟨gb260, 3, none⟩) (Kd.V_far (p := ⟨gb260, 2, none⟩) (Kd.V_far (p := ⟨gb260, 1, none⟩) (Kd.V_far (p := ⟨gb260, 0, none⟩) (Kd.V_mono HO0_0.out (fun k_ hk => (⟨hk, hk.2.2.2⟩ : _ ∧ k_ ≠ gb260))) (fun _ hk => hk.2) (.slice A0_0 l0_0.length c0_0)) (fun _ hk => hk.2) (.int .i64 t259)) (fun _ hk => hk.2) (.int .i64 0)) (fun _ hk => hk.2) (.int .i64 0)) (fun _ hk => hk.2) (.bool false)) (fun _ h_ => h_.1))) (Kd.R_base ho36) hb); have n1_ := aA (Kd.R_lower (Kd.R_newM (M := fun k_ => (w.heap.size ≤ k_)) ho36 (below_size (mD3 GE257.out GE258.out GE260.out)) (fun k_ h_ => h_)) (below_size (mD3 GE257.out GE258.out GE260.out))); have n2_ := aA (blk_below (g := gb257) (o := .cells #[.slice A0_0 l0_0.length c0_0] 24 (0, 0)) (by (with_reducible repeat (first | refine blk_drewN ?_ _ | refine blk_drew ?_ | refine blk_alloc ?_ _)); refine blk_far ?_ NB257_260.out _; (with_reducible repeat (first | refine blk_drewN ?_ _ | refine blk_drew ?_ | refine blk_alloc ?_ _)); refine blk_far ?_ NB257_260.out _; (with_reducible repeat (first | refine blk_drewN ?_ _ | refine blk_drew ?_ | refine blk_alloc ?_ _)); refine blk_far ?_ NB257_260.out _; (with_reducible repeat (first | refine blk_drewN ?_ _ | refine blk_drew ?_ | refine blk_alloc ?_ _)); refine blk_far ?_ NB257_260.out _; (with_reducible repeat (first | refine blk_drewN ?_ _ | refine blk_drew ?_ | refine blk_alloc ?_ _)); refine blk_far ?_ NB257_260.out _; (with_reducible repeat (first | refine blk_drewN ?_ _ | refine blk_drew ?_ | refine blk_alloc ?_ _)); exact BK257.out) hb); have n3_ := aA (blk_below (g := gb258) (o := .cells #[.slice none 0 0, .int .i64 0, .int .i64 0, .int .i64 0, .bool false] 26 (0, 0)) (by (with_reducible repeat (first | refine blk_drewN ?_ _ | refine blk_drew ?_ | refine blk_alloc ?_ _)); refine blk_far ?_ NB258_260.out _; (with_reducible repeat (first | refine blk_drewN ?_ _ | refine blk_drew ?_ | refine blk_alloc ?_ _)); refine blk_far ?_ NB258_260.out _; (with_reducible repeat (first | refine blk_drewN ?_ _ | refine blk_drew ?_ | refine blk_alloc ?_ _)); refine blk_far ?_ NB258_260.out _; (with_reducible repeat (first | refine blk_drewN ?_ _ | refine blk_drew ?_ | refine blk_alloc ?_ _)); refine blk_far ?_ NB258_260.out _; (with_reducible repeat (first | refine blk_drewN ?_ _ | refine blk_drew ?_ | refine blk_alloc ?_ _)); refine blk_far ?_ NB258_260.out _; (with_reducible repeat (first | refine blk_drewN ?_ _ | refine blk_drew ?_ | refine blk_alloc ?_ _)); exact BK258.out) hb); have n4_ := aA (blk_below (g := gb260) (o := .cells #[.slice A0_0 l0_0.length c0_0, .int .i64 t259, .int .i64 0, .int .i64 0, .bool false] 26 (0, 0)) (by (with_reducible repeat (first | refine blk_drewN ?_ _ | refine blk_drew ?_ | refine blk_alloc ?_ _)); have h_ := BK260.out; exact pK 4 (pK 3 (pK 2 (pK 1 (pK 0 (h_)))))) hb); have n5_ := aA (below_step (mD3 GE257.out GE258.out GE260.out) hb); clear HO0_0 BK257 BK258 BK260 HB; have HO0_0 := n0_; have HO263 := n1_; have BK257 := n2_; have BK258 := n3_; have BK260 := n4_; have HB := n5_; clear n0_ n1_ n2_ n3_ n4_ n5_ hb ho36))
  (try simp only [Act.put, List.setIfInBounds_toArray, List.set_cons_zero, List.set_cons_succ])
  go_cut [6] (fun v6 wc => ∃ (kq : Nat) (x6_19 : List ByteArray), Aside0 (foghornref04_Boot.j1 kq x6_19 l0_0 l0_0 t259 0 0 false = some (r1, r2, r3, r4, r5, r6, r7)) ∧ Aside0 (kq ≤ k) ∧ Aside0 (Kd.R Kd.string 9 wc w.heap.size (fun k_ => (w.heap.size ≤ k_)) v6 x6_19) ∧ Aside0 (Kd.V Kd.string 9 wc w.heap.size (fun k_ => (P0_0_ k_ ∨ w.heap.size ≤ k_) ∧ some k_ ≠ (v6 : Value).ownBlock ∧ k_ ≠ gb257 ∧ k_ ≠ gb258 ∧ k_ ≠ gb260) (.slice A0_0 l0_0.length c0_0) l0_0) ∧ Aside0 (Kd.V Kd.string 9 wc w.heap.size (fun k_ => (P0_0_ k_ ∨ w.heap.size ≤ k_) ∧ some k_ ≠ (v6 : Value).ownBlock ∧ k_ ≠ gb257 ∧ k_ ≠ gb258 ∧ k_ ≠ gb260) (.slice A0_0 l0_0.length c0_0) l0_0) ∧ Aside0 (wc.heap[gb257]? = some (.cells #[(.slice A0_0 l0_0.length c0_0)] 24 (0, 0))) ∧ Aside0 (wc.heap[gb258]? = some (.cells #[(.slice none 0 0), .int .i64 0, .int .i64 0, .int .i64 0, .bool false] 26 (0, 0))) ∧ Aside0 (wc.heap[gb260]? = some (.cells #[(.slice A0_0 l0_0.length c0_0), .int .i64 t259, .int .i64 0, .int .i64 0, .bool false] 26 (0, 0))) ∧ Aside0 (Below w.heap.size w wc))
  case first =>
   have H := HC20.out
   clear HC20
   have H' := aA H
   clear H
   go_wp2
   go_loopg [6, 7] k (fun kq v6 v7 w' => ∃ (x6_1 : List ByteArray) (x7_1 : Int), v7 = .int .i64 x7_1 ∧ Aside0 (foghornref04_Boot.l0 kq x6_1 x7_1 l0_0 l0_0 t259 0 0 false = some (r1, r2, r3, r4, r5, r6, r7)) ∧ Aside0 (kq ≤ k) ∧ Aside0 (Kd.R Kd.string 9 w' w.heap.size (fun k_ => (w.heap.size ≤ k_)) v6 x6_1) ∧ Aside0 (Kd.V Kd.string 9 w' w.heap.size (fun k_ => (P0_0_ k_ ∨ w.heap.size ≤ k_) ∧ some k_ ≠ (v6 : Value).ownBlock ∧ k_ ≠ gb257 ∧ k_ ≠ gb258 ∧ k_ ≠ gb260) (.slice A0_0 l0_0.length c0_0) l0_0) ∧ Aside0 (Kd.V Kd.string 9 w' w.heap.size (fun k_ => (P0_0_ k_ ∨ w.heap.size ≤ k_) ∧ some k_ ≠ (v6 : Value).ownBlock ∧ k_ ≠ gb257 ∧ k_ ≠ gb258 ∧ k_ ≠ gb260) (.slice A0_0 l0_0.length c0_0) l0_0) ∧ Aside0 (w'.heap[gb257]? = some (.cells #[(.slice A0_0 l0_0.length c0_0)] 24 (0, 0))) ∧ Aside0 (w'.heap[gb258]? = some (.cells #[(.slice none 0 0), .int .i64 0, .int .i64 0, .int .i64 0, .bool false] 26 (0, 0))) ∧ Aside0 (w'.heap[gb260]? = some (.cells #[(.slice A0_0 l0_0.length c0_0), .int .i64 t259, .int .i64 0, .int .i64 0, .bool false] 26 (0, 0))) ∧ Aside0 (Below w.heap.size w w'))
   case atStart => exact ⟨(y261), (0), (by first | rfl | (simp; done) | (simp [*]; done)), H', ⟨Nat.le_refl _⟩, ⟨by (with_reducible repeat (first | apply Kd.R_alloc | apply Kd.R_drewN | apply Kd.R_drew)); exact Kd.R_mono HO263.out (fun _ hk => hk.1)⟩, ⟨by (with_reducible repeat (first | apply Kd.V_alloc | apply Kd.V_drewN | apply Kd.V_drew)); exact Kd.V_mono HO0_0.out (fun _ hk => ⟨hk.1.1, ⟨hk.2, ⟨hk.1.2.1, ⟨hk.1.2.2.1, hk.1.2.2.2⟩⟩⟩⟩)⟩, ⟨by (with_reducible repeat (first | apply Kd.V_alloc | apply Kd.V_drewN | apply Kd.V_drew)); exact Kd.V_mono HO0_0.out (fun _ hk => ⟨hk.1.1, ⟨hk.2, ⟨hk.1.2.1, ⟨hk.1.2.2.1, hk.1.2.2.2⟩⟩⟩⟩)⟩, ⟨by (with_reducible repeat (first | refine blk_drewN ?_ _ | refine blk_drew ?_ | refine blk_alloc ?_ _)); exact BK257.out⟩, ⟨by (with_reducible repeat (first | refine blk_drewN ?_ _ | refine blk_drew ?_ | refine blk_alloc ?_ _)); exact BK258.out⟩, ⟨by (with_reducible repeat (first | refine blk_drewN ?_ _ | refine blk_drew ?_ | refine blk_alloc ?_ _)); exact BK260.out⟩, ⟨by repeat (first | (with_reducible first | exact HB.out | apply below_alloc | apply pw_below_drewN | apply below_drew1 | refine below_set ?_ GE257.out | refine below_set ?_ GE258.out | refine below_set ?_ GE260.out) | exact HB.out)⟩⟩
   case round =>
    clear H'
    try clear c1
    try clear p2
    try clear c3
    try clear c3b0
    try clear c3b1
    try clear c4
    try clear c15
    try clear c16
    try clear c18
    try clear c19
    try clear c32
    try clear c33
    try clear hcz17_0 hcz17_1 hcz17_2 hcz17_3 hcz17_4
    try clear hcz19_0 hcz19_1 hcz19_2 hcz19_3 hcz19_4
    try clear hcz34_0 hcz34_1 hcz34_2 hcz34_3 hcz34_4
    try clear hfz17_0 hfz17_1 hfz17_2 hfz17_3 hfz17_4
    try clear hfz19_0 hfz19_1 hfz19_2 hfz19_3 hfz19_4
    try clear hfz34_0 hfz34_1 hfz34_2 hfz34_3 hfz34_4
    obtain ⟨x6_1, x7_1, rfl, HA, HK1, HO_6, HO_258000, HO_261000, BK257, BK258, BK260, HB⟩ := hrel
    cases gk with
    | zero => exact absurd HA.out (by simp [foghornref04_Boot.l0])
    | succ k1 =>
     have H := HA.out
     clear HA
     simp only [foghornref04_Boot.l0] at H
     replace H := Option.bind_eq_some_iff.mp H
     obtain ⟨t264, A370, H⟩ := H
     replace H : (if x7_1 < t264 then ((foghornref04_place.f l0_0 t259 x7_1).bind fun t265 => ((foghornref04_is.f l0_0 t265 t259 (wrap64 (x7_1 + 1))).bind fun bt266 => (if bt266.2 = true then (if x6_1.length < 8796093022208 then (foghornref04_Boot.l0 k1 (x6_1 ++ [bt266.1]) (wrap64 (x7_1 + 1)) l0_0 l0_0 t259 0 0 false) else (none)) else (foghornref04_Boot.j1 k1 x6_1 l0_0 l0_0 t259 0 0 false)))) else (foghornref04_Boot.j1 k1 x6_1 l0_0 l0_0 t259 0 0 false)) = some (r1, r2, r3, r4, r5, r6, r7) := H
     have A37 := aA A370
     clear A370
     by_cases c38 : x7_1 < t264
     ·rw [if_pos c38] at H
      have c38b0 : decide (x7_1 < t264) = true := decide_eq_true c38
      clear c38
      (first | rw [c38b0] | (simp only [i64_w, i32_w]; rw [c38b0]) | skip)
      replace H := Option.bind_eq_some_iff.mp H
      obtain ⟨t265, A390, H⟩ := H
      replace H : ((foghornref04_is.f l0_0 t265 t259 (wrap64 (x7_1 + 1))).bind fun bt266 => (if bt266.2 = true then (if x6_1.length < 8796093022208 then (foghornref04_Boot.l0 k1 (x6_1 ++ [bt266.1]) (wrap64 (x7_1 + 1)) l0_0 l0_0 t259 0 0 false) else (none)) else (foghornref04_Boot.j1 k1 x6_1 l0_0 l0_0 t259 0 0 false))) = some (r1, r2, r3, r4, r5, r6, r7) := H
      have A39 := aA A390
      clear A390
      replace H := Option.bind_eq_some_iff.mp H
      obtain ⟨⟨t266, t267⟩, A400, H⟩ := H
      replace H : (if t267 = true then (if x6_1.length < 8796093022208 then (foghornref04_Boot.l0 k1 (x6_1 ++ [t266]) (wrap64 (x7_1 + 1)) l0_0 l0_0 t259 0 0 false) else (none)) else (foghornref04_Boot.j1 k1 x6_1 l0_0 l0_0 t259 0 0 false)) = some (r1, r2, r3, r4, r5, r6, r7) := H
      have A40 := aA A400
      clear A400
      by_cases c41 : t267 = true
      ·subst c41
       have H1 : (if x6_1.length < 8796093022208 then (foghornref04_Boot.l0 k1 (x6_1 ++ [t266]) (wrap64 (x7_1 + 1)) l0_0 l0_0 t259 0 0 false) else (none)) = some (r1, r2, r3, r4, r5, r6, r7) := by rw [if_pos rfl] at H; exact H
       clear H
       have H := H1
       clear H1
       by_cases c42 : x6_1.length < 8796093022208
       ·rw [if_pos c42] at H
        have LMc42 := aA c42
        clear c42
        obtain ⟨y268, hy268⟩ : ∃ y_ : List ByteArray, y_ = (x6_1 ++ [t266]) := ⟨_, rfl⟩
        replace H : (foghornref04_Boot.l0 k1 y268 (wrap64 (x7_1 + 1)) l0_0 l0_0 t259 0 0 false) = some (r1, r2, r3, r4, r5, r6, r7) := by first | (rw [hy268]; with_reducible exact H) | (have H2_ := (Option.bind_some _ _).symm.trans H; rw [hy268]; with_reducible exact H2_) | (have H2_ := (Option.bind_some _ _).symm.trans H; with_reducible exact H2_) | with_reducible exact H | (rw [hy268]; exact H) | exact H
        have Ny268 := aA hy268
        clear hy268
        have H' := aA H
        clear H
        have hnb43 := NB257_258.out
        have hnc43 := NB258_257.out
        have hnb44 := NB257_260.out
        have hnc44 := NB260_257.out
        have hcz45_0 : wr.cell? ⟨gb257, 0, none⟩ = some (.slice A0_0 l0_0.length c0_0) := (blk_cell BK257.out 0).trans rfl
        have hfz45_0 := blk_frozen BK257.out 0
        try go_wp2_with (first | ((with_reducible refine gate_callee (f := 24) rfl ?_); refine goesL_ (some 24) rfl rfl Try.func24 (by kernel_rfl) rfl #[.agg #[.slice A0_0 l0_0.length c0_0]] rfl mS ?_; (with_reducible refine (foghornref04_Area.calls _ _ l0_0 t264 _ ?side1 ?side2 A37.out).mono ?_); (case side1 => exact mC ((Kd.V_reads' HO_258000.out).2.2)); (case side2 => exact (Kd.V_reads' HO_258000.out).2.1); rintro e w46 ⟨rfl, hb⟩; refine ⟨_, rfl, ?_⟩; have n0_ := aA (Kd.R_below (mR HO_6.out) hb); have n1_ := aA (Kd.V_below (by (with_reducible repeat (first | apply Kd.V_alloc | apply Kd.V_drewN | apply Kd.V_drew)); exact HO_258000.out) hb); have n2_ := aA (Kd.V_below (by (with_reducible repeat (first | apply Kd.V_alloc | apply Kd.V_drewN | apply Kd.V_drew)); exact HO_261000.out) hb); have n3_ := aA (bB BK257.out hb); have n4_ := aA (bB BK258.out hb); have n5_ := aA (bB BK260.out hb); have n6_ := aA (below_step (mD3 GE257.out GE258.out GE260.out) hb); clear HO_6 HO_258000 HO_261000 BK257 BK258 BK260 HB; have HO_6 := n0_; have HO_258000 := n1_; have HO_261000 := n2_; have BK257 := n3_; have BK258 := n4_; have BK260 := n5_; have HB := n6_; clear n0_ n1_ n2_ n3_ n4_ n5_ n6_; (try clear hb); (try clear hb2); (try clear hk); (try clear hi)))
        have n0_ := aA (Kd.R_drew HO_6.out)
        have n1_ := aA (Kd.V_drew HO_258000.out)
        have n2_ := aA (Kd.V_drew HO_261000.out)
        have n3_ := aA (blk_drew BK257.out)
        have n4_ := aA (blk_drew BK258.out)
        have n5_ := aA (blk_drew BK260.out)
        have n6_ := aA (below_drew1 HB.out)
        clear HO_6
        clear HO_258000
        clear HO_261000
        clear BK257
        clear BK258
        clear BK260
        clear HB
        have HO_6 := n0_
        have HO_258000 := n1_
        have HO_261000 := n2_
        have BK257 := n3_
        have BK258 := n4_
        have BK260 := n5_
        have HB := n6_
        clear n0_ n1_ n2_ n3_ n4_ n5_ n6_
        refine start_ (n := 16) (S := fun w' => w'.cell? ⟨gb257, 0, none⟩ = some (.slice A0_0 l0_0.length c0_0) ∧ w'.cell? ⟨gb260, 0, none⟩ = some (.slice A0_0 l0_0.length c0_0) ∧ w'.cell? ⟨gb260, 1, none⟩ = some (.int .i64 t259) ∧ w'.cell? ⟨gb260, 2, none⟩ = some (.int .i64 0) ∧ w'.cell? ⟨gb260, 3, none⟩ = some (.int .i64 0) ∧ w'.cell? ⟨gb260, 4, none⟩ = some (.bool false)) (ds := []) #[false, false, false, false, false, false, false, false, false, false, false, false, false, false, false, false] (by kernel_rfl) rfl rfl ⟨(blk_cell BK257.out 0).trans rfl, (blk_cell BK260.out 0).trans rfl, (blk_cell BK260.out 1).trans rfl, (blk_cell BK260.out 2).trans rfl, (blk_cell BK260.out 3).trans rfl, (blk_cell BK260.out 4).trans rfl⟩ (fun hHeld => ?_); refine with_tabW foghornref04_Boot.tab8 foghornref04_Boot.bits8 (fun HT_ HW_ => ?_)
        generalize w46.drew = w47 at HO_6 HO_258000 HO_261000 BK257 BK258 BK260 HB hHeld ⊢
        refine pure_ (i := 2) (N := some 31) (v := ?_) (a' := ?_) #[false, false, true, false, false, false, false, false, false, false, false, false, false, false, false, false] rfl rfl (any_of HT_.out (by kernel_rfl)) (fun _ _ _ h => h) (Or.inl ⟨by rfl, ?_⟩) ?_ ?_
        rotate_left
        ·intro w'
         go_simp
         with_reducible rfl
        rotate_left
        ·exact mP
        refine pure_ (i := 4) (N := some 33) (v := ?_) (a' := ?_) #[false, false, true, false, true, false, false, false, false, false, false, false, false, false, false, false] rfl rfl (any_of HT_.out (by kernel_rfl)) (fun _ _ _ h => h) (Or.inl ⟨by rfl, ?_⟩) ?_ ?_
        rotate_left
        ·intro w'
         go_simp
         with_reducible rfl
        rotate_left
        ·exact mP
        refine pure_ (i := 6) (N := some 35) (v := ?_) (a' := ?_) #[false, false, true, false, true, false, true, false, false, false, false, false, false, false, false, false] rfl rfl (any_of HT_.out (by kernel_rfl)) (fun _ _ _ h => h) (Or.inl ⟨by rfl, ?_⟩) ?_ ?_
        rotate_left
        ·intro w'
         go_simp
         with_reducible rfl
        rotate_left
        ·exact mP
        refine pure_ (i := 8) (N := some 37) (v := ?_) (a' := ?_) #[false, false, true, false, true, false, true, false, true, false, false, false, false, false, false, false] rfl rfl (any_of HT_.out (by kernel_rfl)) (fun _ _ _ h => h) (Or.inl ⟨by rfl, ?_⟩) ?_ ?_
        rotate_left
        ·intro w'
         go_simp
         with_reducible rfl
        rotate_left
        ·exact mP
        refine pure_ (i := 9) (N := some 38) (v := ?_) (a' := ?_) #[false, false, true, false, true, false, true, false, true, true, false, false, false, false, false, false] rfl rfl (any_of HT_.out (by kernel_rfl)) (fun _ _ _ h => h) (Or.inl ⟨by rfl, ?_⟩) ?_ ?_
        rotate_left
        ·intro w'
         go_simp
         with_reducible rfl
        rotate_left
        ·exact mP
        refine take_ (i := 0) (N := some 29) (v := ?_) (a' := ?_) #[true, false, true, false, true, false, true, false, true, true, false, false, false, false, false, false] rfl rfl (take_ofW HT_.out HW_.out (by kernel_rfl)) (fun _ _ _ h => h) (Or.inl ⟨by rfl, ?_⟩) hHeld ?_ ?_
        rotate_left
        ·rintro w' ⟨s0, s1, s2, s3, s4, s5⟩
         go_simp
         with_reducible rfl
        rotate_left
        ·exact mP
        refine take_ (i := 1) (N := some 30) (v := ?_) (a' := ?_) #[true, true, true, false, true, false, true, false, true, true, false, false, false, false, false, false] rfl rfl (take_ofW HT_.out HW_.out (by kernel_rfl)) (fun _ _ _ h => h) (Or.inl ⟨by rfl, ?_⟩) hHeld ?_ ?_
        rotate_left
        ·rintro w' ⟨s0, s1, s2, s3, s4, s5⟩
         go_simp
         with_reducible rfl
        rotate_left
        ·exact mP
        refine take_ (i := 3) (N := some 32) (v := ?_) (a' := ?_) #[true, true, true, true, true, false, true, false, true, true, false, false, false, false, false, false] rfl rfl (take_ofW HT_.out HW_.out (by kernel_rfl)) (fun _ _ _ h => h) (Or.inl ⟨by rfl, ?_⟩) hHeld ?_ ?_
        rotate_left
        ·rintro w' ⟨s0, s1, s2, s3, s4, s5⟩
         go_simp
         with_reducible rfl
        rotate_left
        ·exact mP
        refine take_ (i := 7) (N := some 36) (v := ?_) (a' := ?_) #[true, true, true, true, true, false, true, true, true, true, false, false, false, false, false, false] rfl rfl (take_ofW HT_.out HW_.out (by kernel_rfl)) (fun _ _ _ h => h) (Or.inl ⟨by rfl, ?_⟩) hHeld ?_ ?_
        rotate_left
        ·rintro w' ⟨s0, s1, s2, s3, s4, s5⟩
         go_simp
         with_reducible rfl
        rotate_left
        ·exact mP
        refine one_ (i := 5) (N := some 34) #[true, true, true, true, true, true, true, true, true, true, false, false, false, false, false, false] rfl rfl (one_of HT_.out (by kernel_rfl)) (by decide) (fun K hK => ?_)
        refine goes_ Try.func46 (by kernel_rfl) rfl #[.agg #[.slice A0_0 l0_0.length c0_0], .int .i64 t259, .int .i64 x7_1] (by rfl) rfl rfl mS ?_
        with_reducible refine (foghornref04_place.calls _ _ l0_0 t259 x7_1 t265 _ ?side1 ?side2 A39.out).mono ?_
        (case side1 => exact mC ((Kd.V_reads' HO_258000.out).2.2))
        (case side2 => exact (Kd.V_reads' HO_258000.out).2.1)
        rintro e w48 ⟨rfl, hb⟩
        refine ⟨_, rfl, ?_⟩
        have n0_ := aA (Kd.R_below (mR HO_6.out) hb)
        have n1_ := aA (Kd.V_below (by (with_reducible repeat (first | apply Kd.V_alloc | apply Kd.V_drewN | apply Kd.V_drew)); exact HO_258000.out) hb)
        have n2_ := aA (Kd.V_below (by (with_reducible repeat (first | apply Kd.V_alloc | apply Kd.V_drewN | apply Kd.V_drew)); exact HO_261000.out) hb)
        have n3_ := aA (bB BK257.out hb)
        have n4_ := aA (bB BK258.out hb)
        have n5_ := aA (bB BK260.out hb)
        have n6_ := aA (below_step (mD3 GE257.out GE258.out GE260.out) hb)
        clear HO_6
        clear HO_258000
        clear HO_261000
        clear BK257
        clear BK258
        clear BK260
        clear HB
        have HO_6 := n0_
        have HO_258000 := n1_
        have HO_261000 := n2_
        have BK257 := n3_
        have BK258 := n4_
        have BK260 := n5_
        have HB := n6_
        clear n0_ n1_ n2_ n3_ n4_ n5_ n6_
        (try clear hb)
        (try clear hb2)
        (try clear hk)
        (try clear hi)
        refine hK.out _ _ ⟨(blk_cell BK257.out 0).trans rfl, (blk_cell BK260.out 0).trans rfl, (blk_cell BK260.out 1).trans rfl, (blk_cell BK260.out 2).trans rfl, (blk_cell BK260.out 3).trans rfl, (blk_cell BK260.out 4).trans rfl⟩ (fun hHeld => ?_)
        clear hK K
        refine norm_ (a' := ?_) ?_ ?_
        rotate_left
        ·show Act.put _ (some 34) _ = _
         simp only [Act.put, List.setIfInBounds_toArray, List.set_cons_zero, List.set_cons_succ, i64_w, i32_w]
         rfl
        refine one_ (i := 10) (N := some 39) #[true, true, true, true, true, true, true, true, true, true, true, false, false, false, false, false] rfl rfl (one_of HT_.out (by kernel_rfl)) (by decide) (fun K hK => ?_)
        refine goes_ Try.func45 (by kernel_rfl) rfl #[.agg #[.slice A0_0 l0_0.length c0_0], .int .i64 t265, .int .i64 t259, .int .i64 (wrap64 (x7_1 + 1))] (by rfl) rfl rfl mS ?_
        with_reducible refine (foghornref04_is.calls _ _ l0_0 t265 t259 (wrap64 (x7_1 + 1)) t266 true _ ?side1 ?side2 A40.out).mono ?_
        (case side1 => exact mC ((Kd.V_reads' HO_258000.out).2.2))
        (case side2 => exact (Kd.V_reads' HO_258000.out).2.1)
        rintro e w49 ⟨rfl, hb⟩
        refine ⟨_, rfl, ?_⟩
        have n0_ := aA (Kd.R_below (mR HO_6.out) hb)
        have n1_ := aA (Kd.V_below (by (with_reducible repeat (first | apply Kd.V_alloc | apply Kd.V_drewN | apply Kd.V_drew)); exact HO_258000.out) hb)
        have n2_ := aA (Kd.V_below (by (with_reducible repeat (first | apply Kd.V_alloc | apply Kd.V_drewN | apply Kd.V_drew)); exact HO_261000.out) hb)
        have n3_ := aA (bB BK257.out hb)
        have n4_ := aA (bB BK258.out hb)
        have n5_ := aA (bB BK260.out hb)
        have n6_ := aA (below_step (mD3 GE257.out GE258.out GE260.out) hb)
        clear HO_6
        clear HO_258000
        clear HO_261000
        clear BK257
        clear BK258
        clear BK260
        clear HB
        have HO_6 := n0_
        have HO_258000 := n1_
        have HO_261000 := n2_
        have BK257 := n3_
        have BK258 := n4_
        have BK260 := n5_
        have HB := n6_
        clear n0_ n1_ n2_ n3_ n4_ n5_ n6_
        (try clear hb)
        (try clear hb2)
        (try clear hk)
        (try clear hi)
        refine hK.out _ _ ⟨(blk_cell BK257.out 0).trans rfl, (blk_cell BK260.out 0).trans rfl, (blk_cell BK260.out 1).trans rfl, (blk_cell BK260.out 2).trans rfl, (blk_cell BK260.out 3).trans rfl, (blk_cell BK260.out 4).trans rfl⟩ (fun hHeld => ?_)
        clear hK K
        refine norm_ (a' := ?_) ?_ ?_
        rotate_left
        ·show Act.put _ (some 39) _ = _
         simp only [Act.put, List.setIfInBounds_toArray, List.set_cons_zero, List.set_cons_succ, i64_w, i32_w]
         rfl
        refine pure_ (i := 11) (N := some 28) (v := ?_) (a' := ?_) #[true, true, true, true, true, true, true, true, true, true, true, true, false, false, false, false] rfl rfl (any_of HT_.out (by kernel_rfl)) (fun _ _ _ h => h) (Or.inl ⟨by rfl, ?_⟩) ?_ ?_
        rotate_left
        ·intro w'
         go_simp
         with_reducible rfl
        rotate_left
        ·exact mP
        refine pure_ (i := 12) (N := some 40) (v := ?_) (a' := ?_) #[true, true, true, true, true, true, true, true, true, true, true, true, true, false, false, false] rfl rfl (any_of HT_.out (by kernel_rfl)) (fun _ _ _ h => h) (Or.inl ⟨by rfl, ?_⟩) ?_ ?_
        rotate_left
        ·intro w'
         go_simp
         with_reducible rfl
        rotate_left
        ·exact mP
        refine pure_ (i := 13) (N := some 41) (v := ?_) (a' := ?_) #[true, true, true, true, true, true, true, true, true, true, true, true, true, true, false, false] rfl rfl (any_of HT_.out (by kernel_rfl)) (fun _ _ _ h => h) (Or.inl ⟨by rfl, ?_⟩) ?_ ?_
        rotate_left
        ·intro w'
         go_simp
         with_reducible rfl
        rotate_left
        ·exact mP
        refine pure_ (i := 14) (N := some 8) (v := ?_) (a' := ?_) #[true, true, true, true, true, true, true, true, true, true, true, true, true, true, true, false] rfl rfl (any_of HT_.out (by kernel_rfl)) (fun _ _ _ h => h) (Or.inl ⟨by rfl, ?_⟩) ?_ ?_
        rotate_left
        ·intro w'
         go_simp
         with_reducible rfl
        rotate_left
        ·exact mP
        refine pure_ (i := 15) (N := some 9) (v := ?_) (a' := ?_) #[true, true, true, true, true, true, true, true, true, true, true, true, true, true, true, true] rfl rfl (any_of HT_.out (by kernel_rfl)) (fun _ _ _ h => h) (Or.inl ⟨by rfl, ?_⟩) ?_ ?_
        rotate_left
        ·intro w'
         go_simp
         with_reducible rfl
        rotate_left
        ·exact mP
        refine done_ (done_of HT_.out (by kernel_rfl)) ?_
        try go_wp2_with (first | ((with_reducible refine gate_builtin (b := .append) (xs := #[.tmp 44, .tmp 46]) rfl ?_); at_builtin; refine Kd.R_append Kd.string (w0 := w) w.heap.size rfl (.tmp 44) (.tmp 46) 22 9 (.string ⟨#[]⟩) 16 rfl Try.underlying22 info9 rfl (by decide) (by omega) u6 x6_1 t266 [.string t266] (fun k_ => (w.heap.size ≤ k_)) (fun _ => False) rfl rfl ?aP (fun _ hk => hk.elim) ?aF ?aO ?aB ?aS ?aL ?_; (case aP => exact rfl); (case aB => exact (mD3 GE257.out GE258.out GE260.out)); (case aF => exact (fun k_ hk => (Nat.le_trans (below_size (mD3 GE257.out GE258.out GE260.out)) hk))); (case aO => exact (mR HO_6.out)); (case aS => exact (below_size (mD3 GE257.out GE258.out GE260.out))); (case aL => have := LMc42.out; omega); intro v269 w50 ho hb hg hat; rw [← Ny268.out] at ho; have n0_ := aA (Kd.V_afterv (ok := (fun k_ => (P0_0_ k_ ∨ w.heap.size ≤ k_) ∧ k_ ≠ gb257 ∧ k_ ≠ gb258 ∧ k_ ≠ gb260)) (by (with_reducible repeat (first | apply Kd.V_alloc | apply Kd.V_drewN | apply Kd.V_drew)); exact Kd.V_mono HO_258000.out (fun _ hk => ⟨⟨hk.1, ⟨hk.2.2.1, ⟨hk.2.2.2.1, hk.2.2.2.2⟩⟩⟩, hk.2.1⟩)) hg hat); have n1_ := aA (Kd.V_afterv (ok := (fun k_ => (P0_0_ k_ ∨ w.heap.size ≤ k_) ∧ k_ ≠ gb257 ∧ k_ ≠ gb258 ∧ k_ ≠ gb260)) (by (with_reducible repeat (first | apply Kd.V_alloc | apply Kd.V_drewN | apply Kd.V_drew)); exact Kd.V_mono HO_261000.out (fun _ hk => ⟨⟨hk.1, ⟨hk.2.2.1, ⟨hk.2.2.2.1, hk.2.2.2.2⟩⟩⟩, hk.2.1⟩)) hg hat); have n2_ := aA (blk_grown (g := gb257) (o := .cells #[.slice A0_0 l0_0.length c0_0] 24 (0, 0)) (mK BK257.out) hg (Kd.R_ne HO_6.out BK257.out (by decide))); have n3_ := aA (blk_grown (g := gb258) (o := .cells #[.slice none 0 0, .int .i64 0, .int .i64 0, .int .i64 0, .bool false] 26 (0, 0)) (mK BK258.out) hg (Kd.R_ne HO_6.out BK258.out (by decide))); have n4_ := aA (blk_grown (g := gb260) (o := .cells #[.slice A0_0 l0_0.length c0_0, .int .i64 t259, .int .i64 0, .int .i64 0, .bool false] 26 (0, 0)) (mK BK260.out) hg (Kd.R_ne HO_6.out BK260.out (by decide))); have n5_ := aA (hb); have n6_ := aA (ho); clear HO_258000 HO_261000 BK257 BK258 BK260 HB HO_6; have HO_258000 := n0_; have HO_261000 := n1_; have BK257 := n2_; have BK258 := n3_; have BK260 := n4_; have HB := n5_; have HO270 := n6_; clear n0_ n1_ n2_ n3_ n4_ n5_ n6_ ho hb hg hat))
        go_roundg k1
        case measure => have := HK1.out; omega
        case rel => exact ⟨(y268), (wrap64 (x7_1 + 1)), (by first | rfl | (simp; done) | (simp [*]; done)), H', ⟨by have := HK1.out; omega⟩, ⟨by (with_reducible repeat (first | apply Kd.R_alloc | apply Kd.R_drewN | apply Kd.R_drew)); exact HO270.out⟩, ⟨by (with_reducible repeat (first | apply Kd.V_alloc | apply Kd.V_drewN | apply Kd.V_drew)); exact Kd.V_mono HO_258000.out (fun _ hk => ⟨hk.1.1, ⟨hk.2, ⟨hk.1.2.1, ⟨hk.1.2.2.1, hk.1.2.2.2⟩⟩⟩⟩)⟩, ⟨by (with_reducible repeat (first | apply Kd.V_alloc | apply Kd.V_drewN | apply Kd.V_drew)); exact Kd.V_mono HO_261000.out (fun _ hk => ⟨hk.1.1, ⟨hk.2, ⟨hk.1.2.1, ⟨hk.1.2.2.1, hk.1.2.2.2⟩⟩⟩⟩)⟩, ⟨by (with_reducible repeat (first | refine blk_drewN ?_ _ | refine blk_drew ?_ | refine blk_alloc ?_ _)); exact BK257.out⟩, ⟨by (with_reducible repeat (first | refine blk_drewN ?_ _ | refine blk_drew ?_ | refine blk_alloc ?_ _)); exact BK258.out⟩, ⟨by (with_reducible repeat (first | refine blk_drewN ?_ _ | refine blk_drew ?_ | refine blk_alloc ?_ _)); exact BK260.out⟩, ⟨by repeat (first | (with_reducible first | exact HB.out | apply below_alloc | apply pw_below_drewN | apply below_drew1 | refine below_set ?_ GE257.out | refine below_set ?_ GE258.out | refine below_set ?_ GE260.out) | exact HB.out)⟩⟩
       ·rw [if_neg c42] at H
        exact absurd H (by simp)
      ·replace c41 := Bool.eq_false_iff.mpr c41
       subst c41
       have H1 : (foghornref04_Boot.j1 k1 x6_1 l0_0 l0_0 t259 0 0 false) = some (r1, r2, r3, r4, r5, r6, r7) := by rw [if_neg (show ¬ (false = true) by decide)] at H; exact H
       clear H
       have H := H1
       clear H1
       have H' := aA H
       clear H
       have hnb51 := NB257_258.out
       have hnc51 := NB258_257.out
       have hnb52 := NB257_260.out
       have hnc52 := NB260_257.out
       have hcz53_0 : wr.cell? ⟨gb257, 0, none⟩ = some (.slice A0_0 l0_0.length c0_0) := (blk_cell BK257.out 0).trans rfl
       have hfz53_0 := blk_frozen BK257.out 0
       try go_wp2_with (first | ((with_reducible refine gate_callee (f := 24) rfl ?_); refine goesL_ (some 24) rfl rfl Try.func24 (by kernel_rfl) rfl #[.agg #[.slice A0_0 l0_0.length c0_0]] rfl mS ?_; (with_reducible refine (foghornref04_Area.calls _ _ l0_0 t264 _ ?side1 ?side2 A37.out).mono ?_); (case side1 => exact mC ((Kd.V_reads' HO_258000.out).2.2)); (case side2 => exact (Kd.V_reads' HO_258000.out).2.1); rintro e w54 ⟨rfl, hb⟩; refine ⟨_, rfl, ?_⟩; have n0_ := aA (Kd.R_below (mR HO_6.out) hb); have n1_ := aA (Kd.V_below (by (with_reducible repeat (first | apply Kd.V_alloc | apply Kd.V_drewN | apply Kd.V_drew)); exact HO_258000.out) hb); have n2_ := aA (Kd.V_below (by (with_reducible repeat (first | apply Kd.V_alloc | apply Kd.V_drewN | apply Kd.V_drew)); exact HO_261000.out) hb); have n3_ := aA (bB BK257.out hb); have n4_ := aA (bB BK258.out hb); have n5_ := aA (bB BK260.out hb); have n6_ := aA (below_step (mD3 GE257.out GE258.out GE260.out) hb); clear HO_6 HO_258000 HO_261000 BK257 BK258 BK260 HB; have HO_6 := n0_; have HO_258000 := n1_; have HO_261000 := n2_; have BK257 := n3_; have BK258 := n4_; have BK260 := n5_; have HB := n6_; clear n0_ n1_ n2_ n3_ n4_ n5_ n6_; (try clear hb); (try clear hb2); (try clear hk); (try clear hi)))
       have n0_ := aA (Kd.R_drew HO_6.out)
       have n1_ := aA (Kd.V_drew HO_258000.out)
       have n2_ := aA (Kd.V_drew HO_261000.out)
       have n3_ := aA (blk_drew BK257.out)
       have n4_ := aA (blk_drew BK258.out)
       have n5_ := aA (blk_drew BK260.out)
       have n6_ := aA (below_drew1 HB.out)
       clear HO_6
       clear HO_258000
       clear HO_261000
       clear BK257
       clear BK258
       clear BK260
       clear HB
       have HO_6 := n0_
       have HO_258000 := n1_
       have HO_261000 := n2_
       have BK257 := n3_
       have BK258 := n4_
       have BK260 := n5_
       have HB := n6_
       clear n0_ n1_ n2_ n3_ n4_ n5_ n6_
       refine start_ (n := 16) (S := fun w' => w'.cell? ⟨gb257, 0, none⟩ = some (.slice A0_0 l0_0.length c0_0) ∧ w'.cell? ⟨gb260, 0, none⟩ = some (.slice A0_0 l0_0.length c0_0) ∧ w'.cell? ⟨gb260, 1, none⟩ = some (.int .i64 t259) ∧ w'.cell? ⟨gb260, 2, none⟩ = some (.int .i64 0) ∧ w'.cell? ⟨gb260, 3, none⟩ = some (.int .i64 0) ∧ w'.cell? ⟨gb260, 4, none⟩ = some (.bool false)) (ds := []) #[false, false, false, false, false, false, false, false, false, false, false, false, false, false, false, false] (by kernel_rfl) rfl rfl ⟨(blk_cell BK257.out 0).trans rfl, (blk_cell BK260.out 0).trans rfl, (blk_cell BK260.out 1).trans rfl, (blk_cell BK260.out 2).trans rfl, (blk_cell BK260.out 3).trans rfl, (blk_cell BK260.out 4).trans rfl⟩ (fun hHeld => ?_); refine with_tabW foghornref04_Boot.tab8 foghornref04_Boot.bits8 (fun HT_ HW_ => ?_)
       generalize w54.drew = w55 at HO_6 HO_258000 HO_261000 BK257 BK258 BK260 HB hHeld ⊢
       refine pure_ (i := 2) (N := some 31) (v := ?_) (a' := ?_) #[false, false, true, false, false, false, false, false, false, false, false, false, false, false, false, false] rfl rfl (any_of HT_.out (by kernel_rfl)) (fun _ _ _ h => h) (Or.inl ⟨by rfl, ?_⟩) ?_ ?_
       rotate_left
       ·intro w'
        go_simp
        with_reducible rfl
       rotate_left
       ·exact mP
       refine pure_ (i := 4) (N := some 33) (v := ?_) (a' := ?_) #[false, false, true, false, true, false, false, false, false, false, false, false, false, false, false, false] rfl rfl (any_of HT_.out (by kernel_rfl)) (fun _ _ _ h => h) (Or.inl ⟨by rfl, ?_⟩) ?_ ?_
       rotate_left
       ·intro w'
        go_simp
        with_reducible rfl
       rotate_left
       ·exact mP
       refine pure_ (i := 6) (N := some 35) (v := ?_) (a' := ?_) #[false, false, true, false, true, false, true, false, false, false, false, false, false, false, false, false] rfl rfl (any_of HT_.out (by kernel_rfl)) (fun _ _ _ h => h) (Or.inl ⟨by rfl, ?_⟩) ?_ ?_
       rotate_left
       ·intro w'
        go_simp
        with_reducible rfl
       rotate_left
       ·exact mP
       refine pure_ (i := 8) (N := some 37) (v := ?_) (a' := ?_) #[false, false, true, false, true, false, true, false, true, false, false, false, false, false, false, false] rfl rfl (any_of HT_.out (by kernel_rfl)) (fun _ _ _ h => h) (Or.inl ⟨by rfl, ?_⟩) ?_ ?_
       rotate_left
       ·intro w'
        go_simp
        with_reducible rfl
       rotate_left
       ·exact mP
       refine pure_ (i := 9) (N := some 38) (v := ?_) (a' := ?_) #[false, false, true, false, true, false, true, false, true, true, false, false, false, false, false, false] rfl rfl (any_of HT_.out (by kernel_rfl)) (fun _ _ _ h => h) (Or.inl ⟨by rfl, ?_⟩) ?_ ?_
       rotate_left
       ·intro w'
        go_simp
        with_reducible rfl
       rotate_left
       ·exact mP
       refine take_ (i := 0) (N := some 29) (v := ?_) (a' := ?_) #[true, false, true, false, true, false, true, false, true, true, false, false, false, false, false, false] rfl rfl (take_ofW HT_.out HW_.out (by kernel_rfl)) (fun _ _ _ h => h) (Or.inl ⟨by rfl, ?_⟩) hHeld ?_ ?_
       rotate_left
       ·rintro w' ⟨s0, s1, s2, s3, s4, s5⟩
        go_simp
        with_reducible rfl
       rotate_left
       ·exact mP
       refine take_ (i := 1) (N := some 30) (v := ?_) (a' := ?_) #[true, true, true, false, true, false, true, false, true, true, false, false, false, false, false, false] rfl rfl (take_ofW HT_.out HW_.out (by kernel_rfl)) (fun _ _ _ h => h) (Or.inl ⟨by rfl, ?_⟩) hHeld ?_ ?_
       rotate_left
       ·rintro w' ⟨s0, s1, s2, s3, s4, s5⟩
        go_simp
        with_reducible rfl
       rotate_left
       ·exact mP
       refine take_ (i := 3) (N := some 32) (v := ?_) (a' := ?_) #[true, true, true, true, true, false, true, false, true, true, false, false, false, false, false, false] rfl rfl (take_ofW HT_.out HW_.out (by kernel_rfl)) (fun _ _ _ h => h) (Or.inl ⟨by rfl, ?_⟩) hHeld ?_ ?_
       rotate_left
       ·rintro w' ⟨s0, s1, s2, s3, s4, s5⟩
        go_simp
        with_reducible rfl
       rotate_left
       ·exact mP
       refine take_ (i := 7) (N := some 36) (v := ?_) (a' := ?_) #[true, true, true, true, true, false, true, true, true, true, false, false, false, false, false, false] rfl rfl (take_ofW HT_.out HW_.out (by kernel_rfl)) (fun _ _ _ h => h) (Or.inl ⟨by rfl, ?_⟩) hHeld ?_ ?_
       rotate_left
       ·rintro w' ⟨s0, s1, s2, s3, s4, s5⟩
        go_simp
        with_reducible rfl
       rotate_left
       ·exact mP
       refine one_ (i := 5) (N := some 34) #[true, true, true, true, true, true, true, true, true, true, false, false, false, false, false, false] rfl rfl (one_of HT_.out (by kernel_rfl)) (by decide) (fun K hK => ?_)
       refine goes_ Try.func46 (by kernel_rfl) rfl #[.agg #[.slice A0_0 l0_0.length c0_0], .int .i64 t259, .int .i64 x7_1] (by rfl) rfl rfl mS ?_
       with_reducible refine (foghornref04_place.calls _ _ l0_0 t259 x7_1 t265 _ ?side1 ?side2 A39.out).mono ?_
       (case side1 => exact mC ((Kd.V_reads' HO_258000.out).2.2))
       (case side2 => exact (Kd.V_reads' HO_258000.out).2.1)
       rintro e w56 ⟨rfl, hb⟩
       refine ⟨_, rfl, ?_⟩
       have n0_ := aA (Kd.R_below (mR HO_6.out) hb)
       have n1_ := aA (Kd.V_below (by (with_reducible repeat (first | apply Kd.V_alloc | apply Kd.V_drewN | apply Kd.V_drew)); exact HO_258000.out) hb)
       have n2_ := aA (Kd.V_below (by (with_reducible repeat (first | apply Kd.V_alloc | apply Kd.V_drewN | apply Kd.V_drew)); exact HO_261000.out) hb)
       have n3_ := aA (bB BK257.out hb)
       have n4_ := aA (bB BK258.out hb)
       have n5_ := aA (bB BK260.out hb)
       have n6_ := aA (below_step (mD3 GE257.out GE258.out GE260.out) hb)
       clear HO_6
       clear HO_258000
       clear HO_261000
       clear BK257
       clear BK258
       clear BK260
       clear HB
       have HO_6 := n0_
       have HO_258000 := n1_
       have HO_261000 := n2_
       have BK257 := n3_
       have BK258 := n4_
       have BK260 := n5_
       have HB := n6_
       clear n0_ n1_ n2_ n3_ n4_ n5_ n6_
       (try clear hb)
       (try clear hb2)
       (try clear hk)
       (try clear hi)
       refine hK.out _ _ ⟨(blk_cell BK257.out 0).trans rfl, (blk_cell BK260.out 0).trans rfl, (blk_cell BK260.out 1).trans rfl, (blk_cell BK260.out 2).trans rfl, (blk_cell BK260.out 3).trans rfl, (blk_cell BK260.out 4).trans rfl⟩ (fun hHeld => ?_)
       clear hK K
       refine norm_ (a' := ?_) ?_ ?_
       rotate_left
       ·show Act.put _ (some 34) _ = _
        simp only [Act.put, List.setIfInBounds_toArray, List.set_cons_zero, List.set_cons_succ, i64_w, i32_w]
        rfl
       refine one_ (i := 10) (N := some 39) #[true, true, true, true, true, true, true, true, true, true, true, false, false, false, false, false] rfl rfl (one_of HT_.out (by kernel_rfl)) (by decide) (fun K hK => ?_)
       refine goes_ Try.func45 (by kernel_rfl) rfl #[.agg #[.slice A0_0 l0_0.length c0_0], .int .i64 t265, .int .i64 t259, .int .i64 (wrap64 (x7_1 + 1))] (by rfl) rfl rfl mS ?_
       with_reducible refine (foghornref04_is.calls _ _ l0_0 t265 t259 (wrap64 (x7_1 + 1)) t266 false _ ?side1 ?side2 A40.out).mono ?_
       (case side1 => exact mC ((Kd.V_reads' HO_258000.out).2.2))
       (case side2 => exact (Kd.V_reads' HO_258000.out).2.1)
       rintro e w57 ⟨rfl, hb⟩
       refine ⟨_, rfl, ?_⟩
       have n0_ := aA (Kd.R_below (mR HO_6.out) hb)
       have n1_ := aA (Kd.V_below (by (with_reducible repeat (first | apply Kd.V_alloc | apply Kd.V_drewN | apply Kd.V_drew)); exact HO_258000.out) hb)
       have n2_ := aA (Kd.V_below (by (with_reducible repeat (first | apply Kd.V_alloc | apply Kd.V_drewN | apply Kd.V_drew)); exact HO_261000.out) hb)
       have n3_ := aA (bB BK257.out hb)
       have n4_ := aA (bB BK258.out hb)
       have n5_ := aA (bB BK260.out hb)
       have n6_ := aA (below_step (mD3 GE257.out GE258.out GE260.out) hb)
       clear HO_6
       clear HO_258000
       clear HO_261000
       clear BK257
       clear BK258
       clear BK260
       clear HB
       have HO_6 := n0_
       have HO_258000 := n1_
       have HO_261000 := n2_
       have BK257 := n3_
       have BK258 := n4_
       have BK260 := n5_
       have HB := n6_
       clear n0_ n1_ n2_ n3_ n4_ n5_ n6_
       (try clear hb)
       (try clear hb2)
       (try clear hk)
       (try clear hi)
       refine hK.out _ _ ⟨(blk_cell BK257.out 0).trans rfl, (blk_cell BK260.out 0).trans rfl, (blk_cell BK260.out 1).trans rfl, (blk_cell BK260.out 2).trans rfl, (blk_cell BK260.out 3).trans rfl, (blk_cell BK260.out 4).trans rfl⟩ (fun hHeld => ?_)
       clear hK K
       refine norm_ (a' := ?_) ?_ ?_
       rotate_left
       ·show Act.put _ (some 39) _ = _
        simp only [Act.put, List.setIfInBounds_toArray, List.set_cons_zero, List.set_cons_succ, i64_w, i32_w]
        rfl
       refine pure_ (i := 11) (N := some 28) (v := ?_) (a' := ?_) #[true, true, true, true, true, true, true, true, true, true, true, true, false, false, false, false] rfl rfl (any_of HT_.out (by kernel_rfl)) (fun _ _ _ h => h) (Or.inl ⟨by rfl, ?_⟩) ?_ ?_
       rotate_left
       ·intro w'
        go_simp
        with_reducible rfl
       rotate_left
       ·exact mP
       refine pure_ (i := 12) (N := some 40) (v := ?_) (a' := ?_) #[true, true, true, true, true, true, true, true, true, true, true, true, true, false, false, false] rfl rfl (any_of HT_.out (by kernel_rfl)) (fun _ _ _ h => h) (Or.inl ⟨by rfl, ?_⟩) ?_ ?_
       rotate_left
       ·intro w'
        go_simp
        with_reducible rfl
       rotate_left
       ·exact mP
       refine pure_ (i := 13) (N := some 41) (v := ?_) (a' := ?_) #[true, true, true, true, true, true, true, true, true, true, true, true, true, true, false, false] rfl rfl (any_of HT_.out (by kernel_rfl)) (fun _ _ _ h => h) (Or.inl ⟨by rfl, ?_⟩) ?_ ?_
       rotate_left
       ·intro w'
        go_simp
        with_reducible rfl
       rotate_left
       ·exact mP
       refine pure_ (i := 14) (N := some 8) (v := ?_) (a' := ?_) #[true, true, true, true, true, true, true, true, true, true, true, true, true, true, true, false] rfl rfl (any_of HT_.out (by kernel_rfl)) (fun _ _ _ h => h) (Or.inl ⟨by rfl, ?_⟩) ?_ ?_
       rotate_left
       ·intro w'
        go_simp
        with_reducible rfl
       rotate_left
       ·exact mP
       refine pure_ (i := 15) (N := some 9) (v := ?_) (a' := ?_) #[true, true, true, true, true, true, true, true, true, true, true, true, true, true, true, true] rfl rfl (any_of HT_.out (by kernel_rfl)) (fun _ _ _ h => h) (Or.inl ⟨by rfl, ?_⟩) ?_ ?_
       rotate_left
       ·intro w'
        go_simp
        with_reducible rfl
       rotate_left
       ·exact mP
       refine done_ (done_of HT_.out (by kernel_rfl)) ?_
       try go_wp2
       go_meet
       case rel => exact ⟨_, (x6_1), H', ⟨by have := HK1.out; first | omega | exact Nat.le_refl _⟩, ⟨by (with_reducible repeat (first | apply Kd.R_alloc | apply Kd.R_drewN | apply Kd.R_drew)); exact HO_6.out⟩, ⟨by (with_reducible repeat (first | apply Kd.V_alloc | apply Kd.V_drewN | apply Kd.V_drew)); exact HO_258000.out⟩, ⟨by (with_reducible repeat (first | apply Kd.V_alloc | apply Kd.V_drewN | apply Kd.V_drew)); exact HO_261000.out⟩, ⟨by (with_reducible repeat (first | refine blk_drewN ?_ _ | refine blk_drew ?_ | refine blk_alloc ?_ _)); exact BK257.out⟩, ⟨by (with_reducible repeat (first | refine blk_drewN ?_ _ | refine blk_drew ?_ | refine blk_alloc ?_ _)); exact BK258.out⟩, ⟨by (with_reducible repeat (first | refine blk_drewN ?_ _ | refine blk_drew ?_ | refine blk_alloc ?_ _)); exact BK260.out⟩, ⟨by repeat (first | (with_reducible first | exact HB.out | apply below_alloc | apply pw_below_drewN | apply below_drew1 | refine below_set ?_ GE257.out | refine below_set ?_ GE258.out | refine below_set ?_ GE260.out) | exact HB.out)⟩⟩
     ·rw [if_neg c38] at H
      have c38b0 : decide (x7_1 < t264) = false := decide_eq_false c38
      clear c38
      (first | rw [c38b0] | (simp only [i64_w, i32_w]; rw [c38b0]) | skip)
      have H' := aA H
      clear H
      have hnb58 := NB257_258.out
      have hnc58 := NB258_257.out
      have hnb59 := NB257_260.out
      have hnc59 := NB260_257.out
      have hcz60_0 : wr.cell? ⟨gb257, 0, none⟩ = some (.slice A0_0 l0_0.length c0_0) := (blk_cell BK257.out 0).trans rfl
      have hfz60_0 := blk_frozen BK257.out 0
      go_wp2_with (first | ((with_reducible refine gate_callee (f := 24) rfl ?_); refine goesL_ (some 24) rfl rfl Try.func24 (by kernel_rfl) rfl #[.agg #[.slice A0_0 l0_0.length c0_0]] rfl mS ?_; (with_reducible refine (foghornref04_Area.calls _ _ l0_0 t264 _ ?side1 ?side2 A37.out).mono ?_); (case side1 => exact mC ((Kd.V_reads' HO_258000.out).2.2)); (case side2 => exact (Kd.V_reads' HO_258000.out).2.1); rintro e w61 ⟨rfl, hb⟩; refine ⟨_, rfl, ?_⟩; have n0_ := aA (Kd.R_below (mR HO_6.out) hb); have n1_ := aA (Kd.V_below (by (with_reducible repeat (first | apply Kd.V_alloc | apply Kd.V_drewN | apply Kd.V_drew)); exact HO_258000.out) hb); have n2_ := aA (Kd.V_below (by (with_reducible repeat (first | apply Kd.V_alloc | apply Kd.V_drewN | apply Kd.V_drew)); exact HO_261000.out) hb); have n3_ := aA (bB BK257.out hb); have n4_ := aA (bB BK258.out hb); have n5_ := aA (bB BK260.out hb); have n6_ := aA (below_step (mD3 GE257.out GE258.out GE260.out) hb); clear HO_6 HO_258000 HO_261000 BK257 BK258 BK260 HB; have HO_6 := n0_; have HO_258000 := n1_; have HO_261000 := n2_; have BK257 := n3_; have BK258 := n4_; have BK260 := n5_; have HB := n6_; clear n0_ n1_ n2_ n3_ n4_ n5_ n6_; (try clear hb); (try clear hb2); (try clear hk); (try clear hi)))
      go_meet
      case rel => exact ⟨_, (x6_1), H', ⟨by have := HK1.out; first | omega | exact Nat.le_refl _⟩, ⟨by (with_reducible repeat (first | apply Kd.R_alloc | apply Kd.R_drewN | apply Kd.R_drew)); exact HO_6.out⟩, ⟨by (with_reducible repeat (first | apply Kd.V_alloc | apply Kd.V_drewN | apply Kd.V_drew)); exact HO_258000.out⟩, ⟨by (with_reducible repeat (first | apply Kd.V_alloc | apply Kd.V_drewN | apply Kd.V_drew)); exact HO_261000.out⟩, ⟨by (with_reducible repeat (first | refine blk_drewN ?_ _ | refine blk_drew ?_ | refine blk_alloc ?_ _)); exact BK257.out⟩, ⟨by (with_reducible repeat (first | refine blk_drewN ?_ _ | refine blk_drew ?_ | refine blk_alloc ?_ _)); exact BK258.out⟩, ⟨by (with_reducible repeat (first | refine blk_drewN ?_ _ | refine blk_drew ?_ | refine blk_alloc ?_ _)); exact BK260.out⟩, ⟨by repeat (first | (with_reducible first | exact HB.out | apply below_alloc | apply pw_below_drewN | apply below_drew1 | refine below_set ?_ GE257.out | refine below_set ?_ GE258.out | refine below_set ?_ GE260.out) | exact HB.out)⟩⟩
  case rest =>
   clear HC20
   try clear c1
   try clear c2
   try clear p2
   try clear c3
   try clear c3b0
   try clear c3b1
   try clear c4
   try clear c5
   try clear p6
   try clear c15
   try clear c16
   try clear c18
   try clear c19
   try clear c24
   try clear c32
   try clear c33
   try clear c38
   try clear c38b0
   try clear c41
   try clear c42
   try clear c43
   try clear c44
   try clear c45
   try clear c46
   try clear c51
   try clear c52
   try clear c58
   try clear c59
   try clear hcz17_0 hcz17_1 hcz17_2 hcz17_3 hcz17_4
   try clear hcz19_0 hcz19_1 hcz19_2 hcz19_3 hcz19_4
   try clear hcz34_0 hcz34_1 hcz34_2 hcz34_3 hcz34_4
   try clear hcz45_0
   try clear hcz53_0
   try clear hcz60_0
   try clear hfz17_0 hfz17_1 hfz17_2 hfz17_3 hfz17_4
   try clear hfz19_0 hfz19_1 hfz19_2 hfz19_3 hfz19_4
   try clear hfz34_0 hfz34_1 hfz34_2 hfz34_3 hfz34_4
   try clear hfz45_0
   try clear hfz53_0
   try clear hfz60_0
   try clear p2
   obtain ⟨kq, x6_19, HA, HJ19, HO_6, HO_258000, HO_261000, BK257, BK258, BK260, HB⟩ := hcut
   cases kq with
   | zero => exact absurd HA.out (by simp [foghornref04_Boot.j1])
   | succ kj19 =>
    have H := HA.out
    clear HA
    simp only [foghornref04_Boot.j1] at H
    have H' := aA H
    clear H
    obtain ⟨Ao62, co62, eo62⟩ := Kd.R_slice HO_6.out
    subst eo62
    have hnb63 := NB260_257.out
    have hnc63 := NB257_260.out
    have hnb64 := NB260_258.out
    have hnc64 := NB258_260.out
    obtain ⟨hcz65_0, hcz65_1, hcz65_2, hcz65_3, hcz65_4⟩ := bC5 BK260.out
    obtain ⟨hfz65_0, hfz65_1, hfz65_2, hfz65_3, hfz65_4⟩ := bF5 BK260.out
    have hnb66 := NB257_258.out
    have hnc66 := NB258_257.out
    have hcz67_0 : wc.cell? ⟨gb257, 0, none⟩ = some (.slice A0_0 l0_0.length c0_0) := (blk_cell BK257.out 0).trans rfl
    have hfz67_0 := blk_frozen BK257.out 0
    go_wp2
    go_loopg [57] kj19 (fun kq v57 w' => ∃ (x57_2 : Int) (x261003_2 : Int), v57 = .int .i64 x57_2 ∧ Aside0 (foghornref04_Boot.l1 kq x6_19 l0_0 (l0_0.length : Int) x57_2 l0_0 t259 (x6_19.length : Int) x261003_2 false = some (r1, r2, r3, r4, r5, r6, r7)) ∧ Aside0 (kq ≤ kj19) ∧ Aside0 (Kd.R Kd.string 9 w' w.heap.size (fun k_ => (w.heap.size ≤ k_)) (.slice Ao62 x6_19.length co62) x6_19) ∧ Aside0 (Kd.V Kd.string 9 w' w.heap.size (fun k_ => (P0_0_ k_ ∨ w.heap.size ≤ k_) ∧ some k_ ≠ ((.slice Ao62 x6_19.length co62) : Value).ownBlock ∧ k_ ≠ gb257 ∧ k_ ≠ gb258 ∧ k_ ≠ gb260) (.slice A0_0 l0_0.length c0_0) l0_0) ∧ Aside0 (Kd.V Kd.string 9 w' w.heap.size (fun k_ => (P0_0_ k_ ∨ w.heap.size ≤ k_) ∧ some k_ ≠ ((.slice Ao62 x6_19.length co62) : Value).ownBlock ∧ k_ ≠ gb257 ∧ k_ ≠ gb258 ∧ k_ ≠ gb260) (.slice A0_0 l0_0.length c0_0) l0_0) ∧ Aside0 (Kd.V Kd.string 9 w' w.heap.size (fun k_ => (P0_0_ k_ ∨ w.heap.size ≤ k_) ∧ some k_ ≠ ((.slice Ao62 x6_19.length co62) : Value).ownBlock ∧ k_ ≠ gb257 ∧ k_ ≠ gb258 ∧ k_ ≠ gb260) (.slice A0_0 l0_0.length c0_0) l0_0) ∧ Aside0 (w'.heap[gb257]? = some (.cells #[(.slice A0_0 l0_0.length c0_0)] 24 (0, 0))) ∧ Aside0 (w'.heap[gb258]? = some (.cells #[(.slice none 0 0), .int .i64 0, .int .i64 0, .int .i64 0, .bool false] 26 (0, 0))) ∧ Aside0 (w'.heap[gb260]? = some (.cells #[(.slice A0_0 l0_0.length c0_0), .int .i64 t259, .int .i64 (x6_19.length : Int), .int .i64 x261003_2, .bool false] 26 (0, 0))) ∧ Aside0 (Below w.heap.size w w'))
    case atStart => exact ⟨(0), (t259), (by first | rfl | (simp; done) | (simp [*]; done)), H', ⟨Nat.le_refl _⟩, ⟨by (with_reducible repeat (first | apply Kd.R_alloc | apply Kd.R_drewN | apply Kd.R_drew)); exact Kd.R_mono (rF 3 (rF 2 (Kd.R_types HO_6.out BK260.out (by decide)))) (fun _ hk => hk.1)⟩, ⟨by (with_reducible repeat (first | apply Kd.V_alloc | apply Kd.V_drewN | apply Kd.V_drew)); exact Kd.V_mono (Kd.V_far (p := ⟨gb260, 3, none⟩) (Kd.V_far (p := ⟨gb260, 2, none⟩) (Kd.V_mono HO_258000.out (fun k_ hk => (⟨hk, hk.2.2.2.2⟩ : _ ∧ k_ ≠ gb260))) (fun _ hk => hk.2) (.int .i64 (x6_19.length : Int))) (fun _ hk => hk.2) (.int .i64 t259)) (fun _ hk => ⟨hk.1.1, ⟨hk.1.2.1, ⟨hk.1.2.2.1, ⟨hk.1.2.2.2.1, hk.1.2.2.2.2⟩⟩⟩⟩)⟩, ⟨by (with_reducible repeat (first | apply Kd.V_alloc | apply Kd.V_drewN | apply Kd.V_drew)); exact Kd.V_mono (Kd.V_far (p := ⟨gb260, 3, none⟩) (Kd.V_far (p := ⟨gb260, 2, none⟩) (Kd.V_mono HO_258000.out (fun k_ hk => (⟨hk, hk.2.2.2.2⟩ : _ ∧ k_ ≠ gb260))) (fun _ hk => hk.2) (.int .i64 (x6_19.length : Int))) (fun _ hk => hk.2) (.int .i64 t259)) (fun _ hk => ⟨hk.1.1, ⟨hk.1.2.1, ⟨hk.1.2.2.1, ⟨hk.1.2.2.2.1, hk.1.2.2.2.2⟩⟩⟩⟩)⟩, ⟨by (with_reducible repeat (first | apply Kd.V_alloc | apply Kd.V_drewN | apply Kd.V_drew)); exact Kd.V_mono (Kd.V_far (p := ⟨gb260, 3, none⟩) (Kd.V_far (p := ⟨gb260, 2, none⟩) (Kd.V_mono HO_261000.out (fun k_ hk => (⟨hk, hk.2.2.2.2⟩ : _ ∧ k_ ≠ gb260))) (fun _ hk => hk.2) (.int .i64 (x6_19.length : Int))) (fun _ hk => hk.2) (.int .i64 t259)) (fun _ hk => ⟨hk.1.1, ⟨hk.1.2.1, ⟨hk.1.2.2.1, ⟨hk.1.2.2.2.1, hk.1.2.2.2.2⟩⟩⟩⟩)⟩, ⟨by (with_reducible repeat (first | refine blk_drewN ?_ _ | refine blk_drew ?_ | refine blk_alloc ?_ _)); refine blk_far ?_ NB257_260.out _; (with_reducible repeat (first | refine blk_drewN ?_ _ | refine blk_drew ?_ | refine blk_alloc ?_ _)); refine blk_far ?_ NB257_260.out _; (with_reducible repeat (first | refine blk_drewN ?_ _ | refine blk_drew ?_ | refine blk_alloc ?_ _)); exact BK257.out⟩, ⟨by (with_reducible repeat (first | refine blk_drewN ?_ _ | refine blk_drew ?_ | refine blk_alloc ?_ _)); refine blk_far ?_ NB258_260.out _; (with_reducible repeat (first | refine blk_drewN ?_ _ | refine blk_drew ?_ | refine blk_alloc ?_ _)); refine blk_far ?_ NB258_260.out _; (with_reducible repeat (first | refine blk_drewN ?_ _ | refine blk_drew ?_ | refine blk_alloc ?_ _)); exact BK258.out⟩, ⟨by (with_reducible repeat (first | refine blk_drewN ?_ _ | refine blk_drew ?_ | refine blk_alloc ?_ _)); refine blk_put (cs := #[.slice A0_0 l0_0.length c0_0, .int .i64 t259, .int .i64 (x6_19.length : Int), .int .i64 0, .bool false]) ?_ 3 _ rfl; (with_reducible repeat (first | refine blk_drewN ?_ _ | refine blk_drew ?_ | refine blk_alloc ?_ _)); refine blk_put (cs := #[.slice A0_0 l0_0.length c0_0, .int .i64 t259, .int .i64 0, .int .i64 0, .bool false]) ?_ 2 _ rfl; (with_reducible repeat (first | refine blk_drewN ?_ _ | refine blk_drew ?_ | refine blk_alloc ?_ _)); exact BK260.out⟩, ⟨by repeat (first | (with_reducible first | exact HB.out | apply below_alloc | apply pw_below_drewN | apply below_drew1 | refine below_set ?_ GE257.out | refine below_set ?_ GE258.out | refine below_set ?_ GE260.out) | exact HB.out)⟩⟩
    case round =>
     clear H'
     try clear c1
     try clear c2
     try clear p2
     try clear c3
     try clear c3b0
     try clear c3b1
     try clear c4
     try clear c5
     try clear c6
     try clear p6
     try clear c15
     try clear c16
     try clear c18
     try clear c19
     try clear c24
     try clear c32
     try clear c33
     try clear c38
     try clear c38b0
     try clear c41
     try clear c42
     try clear c43
     try clear c44
     try clear c45
     try clear c46
     try clear c51
     try clear c52
     try clear c58
     try clear c59
     try clear c63
     try clear c64
     try clear p64
     try clear c66
     try clear hcz17_0 hcz17_1 hcz17_2 hcz17_3 hcz17_4
     try clear hcz19_0 hcz19_1 hcz19_2 hcz19_3 hcz19_4
     try clear hcz34_0 hcz34_1 hcz34_2 hcz34_3 hcz34_4
     try clear hcz45_0
     try clear hcz53_0
     try clear hcz60_0
     try clear hcz65_0 hcz65_1 hcz65_2 hcz65_3 hcz65_4
     try clear hcz67_0
     try clear hfz17_0 hfz17_1 hfz17_2 hfz17_3 hfz17_4
     try clear hfz19_0 hfz19_1 hfz19_2 hfz19_3 hfz19_4
     try clear hfz34_0 hfz34_1 hfz34_2 hfz34_3 hfz34_4
     try clear hfz45_0
     try clear hfz53_0
     try clear hfz60_0
     try clear hfz65_0 hfz65_1 hfz65_2 hfz65_3 hfz65_4
     try clear hfz67_0
     try clear p2
     try clear p6
     obtain ⟨x57_2, x261003_2, rfl, HA, HK2, HO_6, HO_55, HO_258000, HO_261000, BK257, BK258, BK260, HB⟩ := hrel
     cases gk with
     | zero => exact absurd HA.out (by simp [foghornref04_Boot.l1])
     | succ k2 =>
      have H := HA.out
      clear HA
      simp only [foghornref04_Boot.l1] at H
      by_cases c68 : x57_2 < (l0_0.length : Int)
      ·rw [if_pos c68] at H
       have c68b0 : decide (x57_2 < (l0_0.length : Int)) = true := decide_eq_true c68
       clear c68
       by_cases c69 : 0 ≤ x57_2
       ·rw [if_pos c69] at H
        have c69b0 : decide (0 ≤ x57_2) = true := decide_eq_true c69
        clear c69
        by_cases c70 : x57_2 < (l0_0.length : Int)
        ·rw [if_pos c70] at H
         have c70b0 : decide (x57_2 < (l0_0.length : Int)) = true := decide_eq_true c70
         clear c70
         by_cases c71 : 0 < ((rdOf ByteArray.empty l0_0 x57_2).size : Int)
         ·rw [if_pos c71] at H
          have c71b0 : decide (0 < ((rdOf ByteArray.empty l0_0 x57_2).size : Int)) = true := decide_eq_true c71
          have c71b1 : decide (0 < (rdOf ByteArray.empty l0_0 x57_2).size) = true := decide_eq_true (by omega)
          clear c71
          by_cases c73 : (wrap64 (bt (rdOf ByteArray.empty l0_0 x57_2) 0)) ≤ 250
          ·rw [if_pos c73] at H
           have c73b0 : decide ((wrap64 (bt (rdOf ByteArray.empty l0_0 x57_2) 0)) ≤ 250) = true := decide_eq_true c73
           clear c73
           by_cases c74 : (wrap64 (bt (rdOf ByteArray.empty l0_0 x57_2) 0)) > x261003_2
           ·rw [if_pos c74] at H
            have c74b0 : decide (x261003_2 < (wrap64 (bt (rdOf ByteArray.empty l0_0 x57_2) 0))) = true := decide_eq_true c74
            clear c74
            have H' := aA H
            clear H
            have p271 : 0 ≤ (x57_2 : Int) := of_decide_eq_true (by first | (with_reducible assumption) | assumption)
            have q271 : x57_2 < (l0_0.length : Int) := of_decide_eq_true (by first | (with_reducible assumption) | assumption)
            obtain ⟨ad271, e271, hx271_0⟩ := Kd.at_string (Kd.V_reads' HO_55.out).2.2 x57_2 p271 q271
            cases e271
            replace p271 := eq_true p271
            replace q271 := eq_true q271
            have p72 : 0 ≤ (0 : Int) := (by omega)
            have q72 : 0 < (rdOf ByteArray.empty l0_0 x57_2).size := (by have : (0 : Int) < ((rdOf ByteArray.empty l0_0 x57_2).size : Int) := of_decide_eq_true (by first | (with_reducible assumption) | assumption); omega)
            have hx72 : ∀ h : 0 < (rdOf ByteArray.empty l0_0 x57_2).size, (((rdOf ByteArray.empty l0_0 x57_2)[0]'h).toNat : Int) = bt (rdOf ByteArray.empty l0_0 x57_2) 0 := bt_at (rdOf ByteArray.empty l0_0 x57_2) 0
            clear p72
            have qi72 : (0 < ((rdOf ByteArray.empty l0_0 x57_2).size : Int)) = True := eq_true (of_decide_eq_true (by first | (with_reducible assumption) | assumption))
            replace q72 := eq_true q72
            have hnb75 := NB260_257.out
            have hnc75 := NB257_260.out
            have hnb76 := NB260_258.out
            have hnc76 := NB258_260.out
            obtain ⟨hcz77_0, hcz77_1, hcz77_2, hcz77_3, hcz77_4⟩ := bC5 BK260.out
            obtain ⟨hfz77_0, hfz77_1, hfz77_2, hfz77_3, hfz77_4⟩ := bF5 BK260.out
            go_wp2
            go_roundg k2
            case measure => have := HJ19.out; have := HK2.out; omega
            case rel => exact ⟨(wrap64 (x57_2 + 1)), (wrap64 (bt (rdOf ByteArray.empty l0_0 x57_2) 0)), (by first | rfl | (simp; done) | (simp [*]; done)), H', ⟨by have := HJ19.out; have := HK2.out; omega⟩, ⟨by (with_reducible repeat (first | apply Kd.R_alloc | apply Kd.R_drewN | apply Kd.R_drew)); exact Kd.R_mono (rF 3 (Kd.R_types HO_6.out BK260.out (by decide))) (fun _ hk => hk.1)⟩, ⟨by (with_reducible repeat (first | apply Kd.V_alloc | apply Kd.V_drewN | apply Kd.V_drew)); exact Kd.V_mono (Kd.V_far (p := ⟨gb260, 3, none⟩) (Kd.V_mono HO_55.out (fun k_ hk => (⟨hk, hk.2.2.2.2⟩ : _ ∧ k_ ≠ gb260))) (fun _ hk => hk.2) (.int .i64 (wrap64 (bt (rdOf ByteArray.empty l0_0 x57_2) 0)))) (fun _ hk => ⟨hk.1.1, ⟨hk.1.2.1, ⟨hk.1.2.2.1, ⟨hk.1.2.2.2.1, hk.1.2.2.2.2⟩⟩⟩⟩)⟩, ⟨by (with_reducible repeat (first | apply Kd.V_alloc | apply Kd.V_drewN | apply Kd.V_drew)); exact Kd.V_mono (Kd.V_far (p := ⟨gb260, 3, none⟩) (Kd.V_mono HO_258000.out (fun k_ hk => (⟨hk, hk.2.2.2.2⟩ : _ ∧ k_ ≠ gb260))) (fun _ hk => hk.2) (.int .i64 (wrap64 (bt (rdOf ByteArray.empty l0_0 x57_2) 0)))) (fun _ hk => ⟨hk.1.1, ⟨hk.1.2.1, ⟨hk.1.2.2.1, ⟨hk.1.2.2.2.1, hk.1.2.2.2.2⟩⟩⟩⟩)⟩, ⟨by (with_reducible repeat (first | apply Kd.V_alloc | apply Kd.V_drewN | apply Kd.V_drew)); exact Kd.V_mono (Kd.V_far (p := ⟨gb260, 3, none⟩) (Kd.V_mono HO_261000.out (fun k_ hk => (⟨hk, hk.2.2.2.2⟩ : _ ∧ k_ ≠ gb260))) (fun _ hk => hk.2) (.int .i64 (wrap64 (bt (rdOf ByteArray.empty l0_0 x57_2) 0)))) (fun _ hk => ⟨hk.1.1, ⟨hk.1.2.1, ⟨hk.1.2.2.1, ⟨hk.1.2.2.2.1, hk.1.2.2.2.2⟩⟩⟩⟩)⟩, ⟨by (with_reducible repeat (first | refine blk_drewN ?_ _ | refine blk_drew ?_ | refine blk_alloc ?_ _)); refine blk_far ?_ NB257_260.out _; (with_reducible repeat (first | refine blk_drewN ?_ _ | refine blk_drew ?_ | refine blk_alloc ?_ _)); exact BK257.out⟩, ⟨by (with_reducible repeat (first | refine blk_drewN ?_ _ | refine blk_drew ?_ | refine blk_alloc ?_ _)); refine blk_far ?_ NB258_260.out _; (with_reducible repeat (first | refine blk_drewN ?_ _ | refine blk_drew ?_ | refine blk_alloc ?_ _)); exact BK258.out⟩, ⟨by (with_reducible repeat (first | refine blk_drewN ?_ _ | refine blk_drew ?_ | refine blk_alloc ?_ _)); refine blk_put (cs := #[.slice (some ad271) l0_0.length c0_0, .int .i64 t259, .int .i64 (x6_19.length : Int), .int .i64 x261003_2, .bool false]) ?_ 3 _ rfl; (with_reducible repeat (first | refine blk_drewN ?_ _ | refine blk_drew ?_ | refine blk_alloc ?_ _)); exact BK260.out⟩, ⟨by repeat (first | (with_reducible first | exact HB.out | apply below_alloc | apply pw_below_drewN | apply below_drew1 | refine below_set ?_ GE257.out | refine below_set ?_ GE258.out | refine below_set ?_ GE260.out) | exact HB.out)⟩⟩
           ·rw [if_neg c74] at H
            have c74b0 : decide (x261003_2 < (wrap64 (bt (rdOf ByteArray.empty l0_0 x57_2) 0))) = false := decide_eq_false c74
            clear c74
            have H' := aA H
            clear H
            have p271 : 0 ≤ (x57_2 : Int) := of_decide_eq_true (by first | (with_reducible assumption) | assumption)
            have q271 : x57_2 < (l0_0.length : Int) := of_decide_eq_true (by first | (with_reducible assumption) | assumption)
            obtain ⟨ad271, e271, hx271_0⟩ := Kd.at_string (Kd.V_reads' HO_55.out).2.2 x57_2 p271 q271
            cases e271
            replace p271 := eq_true p271
            replace q271 := eq_true q271
            have p72 : 0 ≤ (0 : Int) := (by omega)
            have q72 : 0 < (rdOf ByteArray.empty l0_0 x57_2).size := (by have : (0 : Int) < ((rdOf ByteArray.empty l0_0 x57_2).size : Int) := of_decide_eq_true (by first | (with_reducible assumption) | assumption); omega)
            have hx72 : ∀ h : 0 < (rdOf ByteArray.empty l0_0 x57_2).size, (((rdOf ByteArray.empty l0_0 x57_2)[0]'h).toNat : Int) = bt (rdOf ByteArray.empty l0_0 x57_2) 0 := bt_at (rdOf ByteArray.empty l0_0 x57_2) 0
            clear p72
            have qi72 : (0 < ((rdOf ByteArray.empty l0_0 x57_2).size : Int)) = True := eq_true (of_decide_eq_true (by first | (with_reducible assumption) | assumption))
            replace q72 := eq_true q72
            have hnb78 := NB260_257.out
            have hnc78 := NB257_260.out
            have hnb79 := NB260_258.out
            have hnc79 := NB258_260.out
            obtain ⟨hcz80_0, hcz80_1, hcz80_2, hcz80_3, hcz80_4⟩ := bC5 BK260.out
            obtain ⟨hfz80_0, hfz80_1, hfz80_2, hfz80_3, hfz80_4⟩ := bF5 BK260.out
            go_wp2
            go_roundg k2
            case measure => have := HJ19.out; have := HK2.out; omega
            case rel => exact ⟨(wrap64 (x57_2 + 1)), (x261003_2), (by first | rfl | (simp; done) | (simp [*]; done)), H', ⟨by have := HJ19.out; have := HK2.out; omega⟩, ⟨by (with_reducible repeat (first | apply Kd.R_alloc | apply Kd.R_drewN | apply Kd.R_drew)); exact HO_6.out⟩, ⟨by (with_reducible repeat (first | apply Kd.V_alloc | apply Kd.V_drewN | apply Kd.V_drew)); exact HO_55.out⟩, ⟨by (with_reducible repeat (first | apply Kd.V_alloc | apply Kd.V_drewN | apply Kd.V_drew)); exact HO_258000.out⟩, ⟨by (with_reducible repeat (first | apply Kd.V_alloc | apply Kd.V_drewN | apply Kd.V_drew)); exact HO_261000.out⟩, ⟨by (with_reducible repeat (first | refine blk_drewN ?_ _ | refine blk_drew ?_ | refine blk_alloc ?_ _)); exact BK257.out⟩, ⟨by (with_reducible repeat (first | refine blk_drewN ?_ _ | refine blk_drew ?_ | refine blk_alloc ?_ _)); exact BK258.out⟩, ⟨by (with_reducible repeat (first | refine blk_drewN ?_ _ | refine blk_drew ?_ | refine blk_alloc ?_ _)); exact BK260.out⟩, ⟨by repeat (first | (with_reducible first | exact HB.out | apply below_alloc | apply pw_below_drewN | apply below_drew1 | refine below_set ?_ GE257.out | refine below_set ?_ GE258.out | refine below_set ?_ GE260.out) | exact HB.out)⟩⟩
          ·rw [if_neg c73] at H
           have c73b0 : decide ((wrap64 (bt (rdOf ByteArray.empty l0_0 x57_2) 0)) ≤ 250) = false := decide_eq_false c73
           clear c73
           have H' := aA H
           clear H
           have p271 : 0 ≤ (x57_2 : Int) := of_decide_eq_true (by first | (with_reducible assumption) | assumption)
           have q271 : x57_2 < (l0_0.length : Int) := of_decide_eq_true (by first | (with_reducible assumption) | assumption)
           obtain ⟨ad271, e271, hx271_0⟩ := Kd.at_string (Kd.V_reads' HO_55.out).2.2 x57_2 p271 q271
           cases e271
           replace p271 := eq_true p271
           replace q271 := eq_true q271
           have p72 : 0 ≤ (0 : Int) := (by omega)
           have q72 : 0 < (rdOf ByteArray.empty l0_0 x57_2).size := (by have : (0 : Int) < ((rdOf ByteArray.empty l0_0 x57_2).size : Int) := of_decide_eq_true (by first | (with_reducible assumption) | assumption); omega)
           have hx72 : ∀ h : 0 < (rdOf ByteArray.empty l0_0 x57_2).size, (((rdOf ByteArray.empty l0_0 x57_2)[0]'h).toNat : Int) = bt (rdOf ByteArray.empty l0_0 x57_2) 0 := bt_at (rdOf ByteArray.empty l0_0 x57_2) 0
           clear p72
           have qi72 : (0 < ((rdOf ByteArray.empty l0_0 x57_2).size : Int)) = True := eq_true (of_decide_eq_true (by first | (with_reducible assumption) | assumption))
           replace q72 := eq_true q72
           go_wp2
           go_roundg k2
           case measure => have := HJ19.out; have := HK2.out; omega
           case rel => exact ⟨(wrap64 (x57_2 + 1)), (x261003_2), (by first | rfl | (simp; done) | (simp [*]; done)), H', ⟨by have := HJ19.out; have := HK2.out; omega⟩, ⟨by (with_reducible repeat (first | apply Kd.R_alloc | apply Kd.R_drewN | apply Kd.R_drew)); exact HO_6.out⟩, ⟨by (with_reducible repeat (first | apply Kd.V_alloc | apply Kd.V_drewN | apply Kd.V_drew)); exact HO_55.out⟩, ⟨by (with_reducible repeat (first | apply Kd.V_alloc | apply Kd.V_drewN | apply Kd.V_drew)); exact HO_258000.out⟩, ⟨by (with_reducible repeat (first | apply Kd.V_alloc | apply Kd.V_drewN | apply Kd.V_drew)); exact HO_261000.out⟩, ⟨by (with_reducible repeat (first | refine blk_drewN ?_ _ | refine blk_drew ?_ | refine blk_alloc ?_ _)); exact BK257.out⟩, ⟨by (with_reducible repeat (first | refine blk_drewN ?_ _ | refine blk_drew ?_ | refine blk_alloc ?_ _)); exact BK258.out⟩, ⟨by (with_reducible repeat (first | refine blk_drewN ?_ _ | refine blk_drew ?_ | refine blk_alloc ?_ _)); exact BK260.out⟩, ⟨by repeat (first | (with_reducible first | exact HB.out | apply below_alloc | apply pw_below_drewN | apply below_drew1 | refine below_set ?_ GE257.out | refine below_set ?_ GE258.out | refine below_set ?_ GE260.out) | exact HB.out)⟩⟩
         ·rw [if_neg c71] at H
          exact absurd H (by simp)
        ·rw [if_neg c70] at H
         exact absurd H (by simp)
       ·rw [if_neg c69] at H
        exact absurd H (by simp)
      ·rw [if_neg c68] at H
       have c68b0 : decide (x57_2 < (l0_0.length : Int)) = false := decide_eq_false c68
       clear c68
       simp only [Option.some.injEq, Prod.mk.injEq] at H
       obtain ⟨rfl, rfl, rfl, rfl, rfl, rfl, rfl⟩ := H
       have hnb81 := NB260_257.out
       have hnc81 := NB257_260.out
       have hnb82 := NB260_258.out
       have hnc82 := NB258_260.out
       obtain ⟨hcz83_0, hcz83_1, hcz83_2, hcz83_3, hcz83_4⟩ := bC5 BK260.out
       obtain ⟨hfz83_0, hfz83_1, hfz83_2, hfz83_3, hfz83_4⟩ := bF5 BK260.out
       have hnb84 := NB258_257.out
       have hnc84 := NB257_258.out
       obtain ⟨hcz85_0, hcz85_1, hcz85_2, hcz85_3, hcz85_4⟩ := bC5 BK258.out
       obtain ⟨hfz85_0, hfz85_1, hfz85_2, hfz85_3, hfz85_4⟩ := bF5 BK258.out
       go_wp2
       refine bodyPost_ret (results_ctt rfl _ _ gb258 26 #[.slice A0_0 l0_0.length c0_0, .int .i64 t259, .int .i64 (x6_19.length : Int), .int .i64 x261003_2, .bool false] (0, 0) _ rfl (by (with_reducible repeat (first | refine blk_drewN ?_ _ | refine blk_drew ?_ | refine blk_alloc ?_ _)); have h_ := BK258.out; exact pK 4 (pK 3 (pK 2 (pK 1 (pK 0 (h_)))))) Try.underlying26 rfl (by kernel_rfl)) rfl ?_
       exact ⟨_, _, by first | rfl | (simp [errW_none, errW_some] <;> rfl) | (simp [*, errW_none, errW_some] <;> rfl), by (with_reducible repeat (first | apply Kd.V_alloc | apply Kd.V_drewN | apply Kd.V_drew)); exact Kd.V_mono (Kd.V_far (p := ⟨gb258, 4, none⟩) (Kd.V_far (p := ⟨gb258, 3, none⟩) (Kd.V_far (p := ⟨gb258, 2, none⟩) (Kd.V_far (p := ⟨gb258, 1, none⟩) (Kd.V_far (p := ⟨gb258, 0, none⟩) (Kd.V_mono HO_261000.out (fun k_ hk => (⟨hk, hk.2.2.2.1⟩ : _ ∧ k_ ≠ gb258))) (fun _ hk => hk.2) (.slice A0_0 l0_0.length c0_0)) (fun _ hk => hk.2) (.int .i64 t259)) (fun _ hk => hk.2) (.int .i64 (x6_19.length : Int))) (fun _ hk => hk.2) (.int .i64 x261003_2)) (fun _ hk => hk.2) (.bool false)) (fun _ hk => ⟨hk.1.1, hk.1.2.1⟩), by (with_reducible repeat (first | apply Kd.R_alloc | apply Kd.R_drewN | apply Kd.R_drew)); exact Kd.R_mono (rF 4 (rF 3 (rF 2 (rF 1 (rF 0 (Kd.R_types HO_6.out BK258.out (by decide))))))) (fun _ hk => hk.1), by repeat (first | (with_reducible first | exact HB.out | apply below_alloc | apply pw_below_drewN | apply below_drew1 | refine below_set ?_ GE257.out | refine below_set ?_ GE258.out | refine below_set ?_ GE260.out) | exact HB.out)⟩
end Go.Proofs.YtopaddpclipnjaaQ.P
namespace Go.Proofs.YtopaddpclipnjaaQ.P
open Go.RowKit Go.Proofs.YtopaddpclipnjaaW.PrintWords Go.Proofs.YtopaddpclipnjaaW.PrintLast Go.Proofs.YtopaddpclipnjaaW.PrintMore
attribute [local go_sem] max2_int min2_int max_two min_two max_three min_three max_four min_four
def foghornref02_Right.l0 : Nat → List ByteArray → Int → Int → List ByteArray → Option (Bool)
 | 0, _, _, _, _ => none
 | k + 1, x6, x7, x8, x158000 => if x8 < x7 then (if 0 ≤ x8 then (if x8 < (x6.length : Int) then (if ((rdOf ByteArray.empty x6 x8).size : Int) = 128 then (foghornref02_Right.l0 k x6 x7 (wrap64 (x8 + 1)) x158000) else (some false)) else (none)) else (none)) else (if (x158000.length : Int) ≥ 10 then (some (decide ((x158000.length : Int) ≤ 130))) else (some false))
def foghornref02_Right.f (k : Nat) (l0_0 : List ByteArray) : Option (Bool) := foghornref02_Right.l0 k l0_0 (l0_0.length : Int) 0 l0_0
theorem foghornref02_Right.mono_l : ∀ k, (∀ y0 y1 y2 y3, LeO (foghornref02_Right.l0 k y0 y1 y2 y3) (foghornref02_Right.l0 (k + 1) y0 y1 y2 y3))
 | 0 => fun _ _ _ _ r h => by simp [foghornref02_Right.l0] at h
 | k + 1 => by
  have ih0 := foghornref02_Right.mono_l k
  ·intro y0 y1 y2 y3
   unfold foghornref02_Right.l0
   repeat' first
   | (with_reducible exact ih0 _ _ _ _)
   | (with_reducible exact LeO.refl _)
   | (with_reducible exact LeO.none _)
   | (with_reducible refine LeO.ite ?_ ?_)
   | (with_reducible refine LeO.bind ?_ (fun _ => ?_))
   | exact ih0 _ _ _ _
   | exact LeO.none _
   | refine LeO.ite ?_ ?_
   | refine LeO.bind ?_ (fun _ => ?_)
theorem foghornref02_Right.mono : ∀ a0 k, LeO (foghornref02_Right.f k a0) (foghornref02_Right.f (k + 1) a0) := by
 intro a0 k
 have ih0 := foghornref02_Right.mono_l k
 unfold foghornref02_Right.f
 repeat' first
   | (with_reducible exact ih0 _ _ _ _)
   | (with_reducible exact LeO.refl _)
   | (with_reducible exact LeO.none _)
   | (with_reducible refine LeO.ite ?_ ?_)
   | (with_reducible refine LeO.bind ?_ (fun _ => ?_))
   | exact ih0 _ _ _ _
   | exact LeO.none _
   | refine LeO.ite ?_ ?_
   | refine LeO.bind ?_ (fun _ => ?_)
set_option maxHeartbeats 8000000 in
set_option maxRecDepth 100000 in
theorem foghornref02_Right.calls (k : Nat) (A0_0 : Option Addr) (c0_0 : Nat) (l0_0 : List ByteArray) (r : Bool) (w : World) (hr0_0 : Kd.C Kd.string w A0_0 l0_0.length l0_0) (hc0_0 : l0_0.length ≤ c0_0) (h : foghornref02_Right.f k l0_0 = some r) :
  Calls Try.prog 43 #[.agg #[.slice A0_0 l0_0.length c0_0]] w fun e w' => e = .returned (.bool r) ∧ Below w.heap.size w w' := by
 have hu24 := Try.underlying24
 have HR0_0 := aA hr0_0
 have HC0_0 := aA hc0_0
 clear hr0_0 hc0_0
 have HB := aA (Below.refl w.heap.size w)
 have H : (foghornref02_Right.l0 k l0_0 (l0_0.length : Int) 0 l0_0) = some r := h
 clear h
 have H' := aA H
 clear H
 go_enter Try.func43, Try.ntmps43
 go_wp2_with (first | ((with_reducible refine gate_dst (N := 1) rfl ?_); (try (refine gate_guard (by rfl) ?_; dsimp only)); refine box_event ?hg (N := 1) ?hd (cs := #[.slice A0_0 l0_0.length c0_0]) (t := 24) ?hr ?_; (case hd => rfl); (case hg => rfl); (case hr => first | (go_simp; done) | (go_simp; rfl)); intro gb157 hg w2 hbox hb; have n0_ := aA (below_step mB hb); have n1_ := aA (hbox); have n2_ := aA ((bZ hg mB)); have n3_ := aA ((bZ hg mB)); clear HB; have HB := n0_; have BK157 := n1_; have GW157 := n2_; have GE157 := n3_; clear n0_ n1_ n2_ n3_ hb hbox hg; have hcz3_0 : w2.cell? ⟨gb157, 0, none⟩ = some (.slice A0_0 l0_0.length c0_0) := (blk_cell BK157.out 0).trans rfl; have hfz3_0 := blk_frozen BK157.out 0))
 go_loopg [8] k (fun kq v8 w' => ∃ (x8_1 : Int), v8 = .int .i64 x8_1 ∧ Aside0 (foghornref02_Right.l0 kq l0_0 (l0_0.length : Int) x8_1 l0_0 = some r) ∧ Aside0 (kq ≤ k) ∧ Aside0 (w'.heap[gb157]? = some (.cells #[(.slice A0_0 l0_0.length c0_0)] 24 (0, 0))) ∧ Aside0 (Below w.heap.size w w'))
 case atStart => exact ⟨(0), (by first | rfl | (simp; done) | (simp [*]; done)), H', ⟨Nat.le_refl _⟩, ⟨by (with_reducible repeat (first | refine blk_drewN ?_ _ | refine blk_drew ?_ | refine blk_alloc ?_ _)); exact BK157.out⟩, ⟨by repeat (first | (with_reducible first | exact HB.out | apply below_alloc | apply pw_below_drewN | apply below_drew1 | refine below_set ?_ GE157.out) | exact HB.out)⟩⟩
 case round =>
  clear H'
  try clear p2
  try clear hcz3_0
  try clear hfz3_0
  obtain ⟨x8_1, rfl, HA, HK1, BK157, HB⟩ := hrel
  cases gk with
  | zero => exact absurd HA.out (by simp [foghornref02_Right.l0])
  | succ k1 =>
   have H := HA.out
   clear HA
   simp only [foghornref02_Right.l0] at H
   by_cases c4 : x8_1 < (l0_0.length : Int)
   ·rw [if_pos c4] at H
    have c4b0 : decide (x8_1 < (l0_0.length : Int)) = true := decide_eq_true c4
    clear c4
    by_cases c5 : 0 ≤ x8_1
    ·rw [if_pos c5] at H
     have c5b0 : decide (0 ≤ x8_1) = true := decide_eq_true c5
     clear c5
     by_cases c6 : x8_1 < (l0_0.length : Int)
     ·rw [if_pos c6] at H
      have c6b0 : decide (x8_1 < (l0_0.length : Int)) = true := decide_eq_true c6
      clear c6
      by_cases c7 : ((rdOf ByteArray.empty l0_0 x8_1).size : Int) = 128
      ·rw [if_pos c7] at H
       have c7b0 : (((rdOf ByteArray.empty l0_0 x8_1).size : Int) == 128) = true := beq_iff_eq.mpr c7
       have c7b1 : (((rdOf ByteArray.empty l0_0 x8_1).size : Int) != 128) = false := bne_eq_false_iff_eq.mpr c7
       clear c7
       have H' := aA H
       clear H
       have p158 : 0 ≤ (x8_1 : Int) := of_decide_eq_true (by first | (with_reducible assumption) | assumption)
       have q158 : x8_1 < (l0_0.length : Int) := of_decide_eq_true (by first | (with_reducible assumption) | assumption)
       obtain ⟨ad158, e158, hx158_0⟩ := Kd.at_string HR0_0.out x8_1 p158 q158
       cases e158
       replace hx158_0 := (HB.out.cell (World.block_lt_of_cell? w _ hx158_0)).trans hx158_0
       replace p158 := eq_true p158
       replace q158 := eq_true q158
       go_wp2
       go_roundg k1
       case measure => have := HK1.out; omega
       case rel => exact ⟨(wrap64 (x8_1 + 1)), (by first | rfl | (simp; done) | (simp [*]; done)), H', ⟨by have := HK1.out; omega⟩, ⟨by (with_reducible repeat (first | refine blk_drewN ?_ _ | refine blk_drew ?_ | refine blk_alloc ?_ _)); exact BK157.out⟩, ⟨by repeat (first | (with_reducible first | exact HB.out | apply below_alloc | apply pw_below_drewN | apply below_drew1 | refine below_set ?_ GE157.out) | exact HB.out)⟩⟩
      ·rw [if_neg c7] at H
       have c7b0 : (((rdOf ByteArray.empty l0_0 x8_1).size : Int) == 128) = false := beq_eq_false_iff_ne.mpr c7
       have c7b1 : (((rdOf ByteArray.empty l0_0 x8_1).size : Int) != 128) = true := bne_iff_ne.mpr c7
       obtain rfl := Option.some.inj H
       have p158 : 0 ≤ (x8_1 : Int) := of_decide_eq_true (by first | (with_reducible assumption) | assumption)
       have q158 : x8_1 < (l0_0.length : Int) := of_decide_eq_true (by first | (with_reducible assumption) | assumption)
       obtain ⟨ad158, e158, hx158_0⟩ := Kd.at_string HR0_0.out x8_1 p158 q158
       cases e158
       replace hx158_0 := (HB.out.cell (World.block_lt_of_cell? w _ hx158_0)).trans hx158_0
       replace p158 := eq_true p158
       replace q158 := eq_true q158
       go_wp2
       go_ret
       exact ⟨by first | rfl | (simp [errW_none, errW_some] <;> rfl) | (simp [*, errW_none, errW_some] <;> rfl), by repeat (first | (with_reducible first | exact HB.out | apply below_alloc | apply pw_below_drewN | apply below_drew1 | refine below_set ?_ GE157.out) | exact HB.out)⟩
     ·rw [if_neg c6] at H
      exact absurd H (by simp)
    ·rw [if_neg c5] at H
     exact absurd H (by simp)
   ·rw [if_neg c4] at H
    have c4b0 : decide (x8_1 < (l0_0.length : Int)) = false := decide_eq_false c4
    clear c4
    by_cases c8 : (l0_0.length : Int) ≥ 10
    ·rw [if_pos c8] at H
     have c8b0 : decide (10 ≤ (l0_0.length : Int)) = true := decide_eq_true c8
     have c8b1 : decide (10 ≤ l0_0.length) = true := decide_eq_true (by omega)
     clear c8
     obtain rfl := Option.some.inj H
     have hcz9_0 : wr.cell? ⟨gb157, 0, none⟩ = some (.slice A0_0 l0_0.length c0_0) := (blk_cell BK157.out 0).trans rfl
     have hfz9_0 := blk_frozen BK157.out 0
     go_wp2
     go_ret
     exact ⟨by first | rfl | (simp [errW_none, errW_some] <;> rfl) | (simp [*, errW_none, errW_some] <;> rfl), by repeat (first | (with_reducible first | exact HB.out | apply below_alloc | apply pw_below_drewN | apply below_drew1 | refine below_set ?_ GE157.out) | exact HB.out)⟩
    ·rw [if_neg c8] at H
     have c8b0 : decide (10 ≤ (l0_0.length : Int)) = false := decide_eq_false c8
     have c8b1 : decide (10 ≤ l0_0.length) = false := decide_eq_false (by omega)
     clear c8
     obtain rfl := Option.some.inj H
     have hcz10_0 : wr.cell? ⟨gb157, 0, none⟩ = some (.slice A0_0 l0_0.length c0_0) := (blk_cell BK157.out 0).trans rfl
     have hfz10_0 := blk_frozen BK157.out 0
     go_wp2
     go_ret
     exact ⟨by first | rfl | (simp [errW_none, errW_some] <;> rfl) | (simp [*, errW_none, errW_some] <;> rfl), by repeat (first | (with_reducible first | exact HB.out | apply below_alloc | apply pw_below_drewN | apply below_drew1 | refine below_set ?_ GE157.out) | exact HB.out)⟩
end Go.Proofs.YtopaddpclipnjaaQ.P
namespace Go.Proofs.YtopaddpclipnjaaQ.P
open Go.RowKit Go.Proofs.YtopaddpclipnjaaW.PrintWords Go.Proofs.YtopaddpclipnjaaW.PrintLast Go.Proofs.YtopaddpclipnjaaW.PrintMore
attribute [local go_sem] max2_int min2_int max_two min_two max_three min_three max_four min_four
def foghornref04_Log.f (k : Nat) (l0_0 : List ByteArray) : Option (Bool) := (foghornref02_Right.f k l0_0).bind fun t160 => (if t160 = true then (some (((l0_0.length : Int) % 2) == 0)) else (some false))
theorem foghornref04_Log.mono : ∀ a0 k, LeO (foghornref04_Log.f k a0) (foghornref04_Log.f (k + 1) a0) := by
 intro a0 k
 unfold foghornref04_Log.f
 repeat' first
   | (with_reducible exact foghornref02_Right.mono _ _)
   | (with_reducible exact LeO.refl _)
   | (with_reducible exact LeO.none _)
   | (with_reducible refine LeO.ite ?_ ?_)
   | (with_reducible refine LeO.bind ?_ (fun _ => ?_))
   | exact foghornref02_Right.mono _ _
   | exact LeO.none _
   | refine LeO.ite ?_ ?_
   | refine LeO.bind ?_ (fun _ => ?_)
set_option maxHeartbeats 8000000 in
set_option maxRecDepth 100000 in
theorem foghornref04_Log.calls (k : Nat) (A0_0 : Option Addr) (c0_0 : Nat) (l0_0 : List ByteArray) (r : Bool) (w : World) (hr0_0 : Kd.C Kd.string w A0_0 l0_0.length l0_0) (hc0_0 : l0_0.length ≤ c0_0) (h : foghornref04_Log.f k l0_0 = some r) :
  Calls Try.prog 18 #[.agg #[.slice A0_0 l0_0.length c0_0]] w fun e w' => e = .returned (.bool r) ∧ Below w.heap.size w w' := by
 have hu24 := Try.underlying24
 have HR0_0 := aA hr0_0
 have HC0_0 := aA hc0_0
 clear hr0_0 hc0_0
 have HB := aA (Below.refl w.heap.size w)
 have H : ((foghornref02_Right.f k l0_0).bind fun t160 => (if t160 = true then (some (((l0_0.length : Int) % 2) == 0)) else (some false))) = some r := h
 clear h
 replace H := Option.bind_eq_some_iff.mp H
 obtain ⟨t160, A20, H⟩ := H
 have A2 := aA A20
 clear A20
 by_cases c3 : t160 = true
 ·subst c3
  have H1 : (some (((l0_0.length : Int) % 2) == 0)) = some r := by rw [if_pos rfl] at H; exact H
  clear H
  have H := H1
  clear H1
  obtain rfl := Option.some.inj H
  go_enter Try.func18, Try.ntmps18
  go_wp2_with (first | ((with_reducible refine gate_dst (N := 1) rfl ?_); (try (refine gate_guard (by rfl) ?_; dsimp only)); refine box_event ?hg (N := 1) ?hd (cs := #[.slice A0_0 l0_0.length c0_0]) (t := 24) ?hr ?_; (case hd => rfl); (case hg => rfl); (case hr => first | (go_simp; done) | (go_simp; rfl)); intro gb159 hg w4 hbox hb; have n0_ := aA (below_step mB hb); have n1_ := aA (hbox); have n2_ := aA ((bZ hg mB)); have n3_ := aA ((bZ hg mB)); clear HB; have HB := n0_; have BK159 := n1_; have GW159 := n2_; have GE159 := n3_; clear n0_ n1_ n2_ n3_ hb hbox hg; have hcz5_0 : w4.cell? ⟨gb159, 0, none⟩ = some (.slice A0_0 l0_0.length c0_0) := (blk_cell BK159.out 0).trans rfl; have hfz5_0 := blk_frozen BK159.out 0) | ((with_reducible refine gate_callee (f := 43) rfl ?_); refine goesL_ (some 4) rfl rfl Try.func43 (by kernel_rfl) rfl #[.agg #[.slice A0_0 l0_0.length c0_0]] rfl mS ?_; (with_reducible refine (foghornref02_Right.calls k _ _ l0_0 true _ ?side1 ?side2 A2.out).mono ?_); (case side1 => exact mC ((Kd.C_below HR0_0.out HB.out))); (case side2 => exact HC0_0.out); rintro e w6 ⟨rfl, hb⟩; refine ⟨_, rfl, ?_⟩; have n0_ := aA (bB BK159.out hb); have n1_ := aA (below_step (mD1 GE159.out) hb); clear BK159 HB; have BK159 := n0_; have HB := n1_; clear n0_ n1_; (try clear hb); (try clear hb2); (try clear hk); (try clear hi); have hcz7_0 : w6.cell? ⟨gb159, 0, none⟩ = some (.slice A0_0 l0_0.length c0_0) := (blk_cell BK159.out 0).trans rfl; have hfz7_0 := blk_frozen BK159.out 0))
  go_ret
  exact ⟨by first | rfl | (simp [errW_none, errW_some] <;> rfl) | (simp [*, errW_none, errW_some] <;> rfl), by repeat (first | (with_reducible first | exact HB.out | apply below_alloc | apply pw_below_drewN | apply below_drew1 | refine below_set ?_ GE159.out) | exact HB.out)⟩
 ·replace c3 := Bool.eq_false_iff.mpr c3
  subst c3
  have H1 : (some false) = some r := by rw [if_neg (show ¬ (false = true) by decide)] at H; exact H
  clear H
  have H := H1
  clear H1
  obtain rfl := Option.some.inj H
  go_enter Try.func18, Try.ntmps18
  go_wp2_with (first | ((with_reducible refine gate_dst (N := 1) rfl ?_); (try (refine gate_guard (by rfl) ?_; dsimp only)); refine box_event ?hg (N := 1) ?hd (cs := #[.slice A0_0 l0_0.length c0_0]) (t := 24) ?hr ?_; (case hd => rfl); (case hg => rfl); (case hr => first | (go_simp; done) | (go_simp; rfl)); intro gb159 hg w8 hbox hb; have n0_ := aA (below_step mB hb); have n1_ := aA (hbox); have n2_ := aA ((bZ hg mB)); have n3_ := aA ((bZ hg mB)); clear HB; have HB := n0_; have BK159 := n1_; have GW159 := n2_; have GE159 := n3_; clear n0_ n1_ n2_ n3_ hb hbox hg; have hcz9_0 : w8.cell? ⟨gb159, 0, none⟩ = some (.slice A0_0 l0_0.length c0_0) := (blk_cell BK159.out 0).trans rfl; have hfz9_0 := blk_frozen BK159.out 0) | ((with_reducible refine gate_callee (f := 43) rfl ?_); refine goesL_ (some 4) rfl rfl Try.func43 (by kernel_rfl) rfl #[.agg #[.slice A0_0 l0_0.length c0_0]] rfl mS ?_; (with_reducible refine (foghornref02_Right.calls k _ _ l0_0 false _ ?side1 ?side2 A2.out).mono ?_); (case side1 => exact mC ((Kd.C_below HR0_0.out HB.out))); (case side2 => exact HC0_0.out); rintro e w10 ⟨rfl, hb⟩; refine ⟨_, rfl, ?_⟩; have n0_ := aA (bB BK159.out hb); have n1_ := aA (below_step (mD1 GE159.out) hb); clear BK159 HB; have BK159 := n0_; have HB := n1_; clear n0_ n1_; (try clear hb); (try clear hb2); (try clear hk); (try clear hi)))
  go_ret
  exact ⟨by first | rfl | (simp [errW_none, errW_some] <;> rfl) | (simp [*, errW_none, errW_some] <;> rfl), by repeat (first | (with_reducible first | exact HB.out | apply below_alloc | apply pw_below_drewN | apply below_drew1 | refine below_set ?_ GE159.out) | exact HB.out)⟩
end Go.Proofs.YtopaddpclipnjaaQ.P
