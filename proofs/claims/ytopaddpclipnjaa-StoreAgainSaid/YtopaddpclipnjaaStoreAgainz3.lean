/- Part 3 of a proof: contracts and plain laws of what the statement reaches. No condition. -/
import Derived.Laws.EntriesVeiled
import Derived.Test.YtopaddpclipnjaaStoreAgainz1
import Derived.Test.YtopaddpclipnjaaStoreAgainz2
set_option linter.unusedVariables false
set_option linter.unusedSimpArgs false
namespace Go.Proofs.Ytopaddpclipnjaa
open Go.RowKit Go.Proofs.YtopaddpclipnjaaW.PrintLast
theorem goesP_ {P : Program} {Q : Exit → Act → World → Prop} {ops : Array Oper} {oi : Oper} {N : Option Tmp} {a : Act} {w : World} {K : Act → World → Prop} {f : FuncId} {fn : Func} {as_ : Array Operand} {ts : Array TypeId} (hf : P.funcs[f]? = some fn) (hname : (fn.name == "runtime.NumGoroutine") = false) (hb : fn.body.isSome = true) (args : Array Value)
    (hw : Region.wanted oi (yielded ops a.tmps) = true) (hop : oi.op = .call { callee := .value (.func f), args := as_, argTypes := ts }) (hargs : as_.map a.eval = args)
    (h : Calls P f args w fun e w' => ∃ ch, e = .panicked ch ∧ Q (.panic ch) a w') : if Region.wanted oi (yielded ops a.tmps) = true then Oper.wp P oi a w K Q else K (a.put N undef) w := by
  have he := enters_ hf hname hb args w
  have hrun : (execOp a.eval oi).run P w = .ok (.enter f args) w := by
    unfold execOp
    simp [hop, resolve, Deferred.ofValue, invoke, Act.eval, hargs, he]
  rw [if_pos hw]
  unfold Oper.wp
  rw [hrun, Oper.upon_enter]
  refine h.mono fun e w'' hh => ?_
  obtain ⟨v, rfl, hk⟩ := hh
  exact hk
set_option maxHeartbeats 4000000 in
theorem app1_ok (gs gp gf : Nat) (v : Value) (xs : List ByteArray) (gen used top : Int) (down : Bool) (p : ByteArray) (fk fK : Int) (w : World)
    (hB : w.heap[gs]? = some (.cells (SC v gen used top down) 26 (0, 0))) (hP : w.heap[gp]? = some (.cells #[.string p] 9 (0, 0))) (hF : w.heap[gf]? = some (.cells #[.int .i64 fk, .int .i64 fK] 45 (0, 0)))
    (hS : SlAt w v 1 xs.length (strs xs)) (hne : ∀ b, v.ownBlock = some b → b ≠ gs) (hl : xs.length ≤ 1000) (g0 : 0 ≤ gen) (g1 : gen ≤ 1000) (u0 : 0 ≤ used) (u1 : used ≤ 900) (h1 : fk ≠ 1) (h2 : fk ≠ 2) :
    Calls Try.prog 49 #[.pointer (some ⟨gs, 0, none⟩), .pointer (some ⟨gp, 0, none⟩), .pointer (some ⟨gf, 0, none⟩)] w fun e w' =>
      ∃ v', e = .returned (.tuple #[]) ∧ w'.heap[gs]? = some (.cells (SC v' gen (used + 1) top down) 26 (0, 0)) ∧ SlAt w' v' 1 (tearL xs (placeD xs gen used) (sealS gen (used + 1) p) 128).length (strs (tearL xs (placeD xs gen used) (sealS gen (used + 1) p) 128)) ∧ FreshV w.heap.size v' ∧ w.grownBy w' (some gs) := by
  obtain ⟨a, c, rfl, hnc, hcm⟩ := hS.form
  have HB := Lib.hid hB
  have HS := Lib.hid hS
  have hN := Lib.hid hne
  obtain ⟨q, hq⟩ : ∃ q, q = placeD xs gen used := ⟨_, rfl⟩
  have hpl := fun W (h : SlAt W (Value.slice a xs.length c) 1 xs.length (strs xs)) => place_any _ xs gen used W h hl g0 g1 u0 (by omega)
  rw [← hq] at hpl ⊢
  have HP := Lib.hid hpl
  have hw64 : wrap64 (used + 1) = used + 1 := by unfold wrap64; omega
  have hwi : IntKind.i64.wrap (used + 1) = used + 1 := by rw [IntKind.wrap_i64]; omega
  obtain ⟨ys, hys⟩ : ∃ ys, ys = tearL xs q (sealS gen (used + 1) p) 128 := ⟨_, rfl⟩
  have hwr := fun W (hb : W.heap[gs]? = some (.cells (SC (Value.slice a xs.length c) gen used top down) 26 (0, 0))) (h : SlAt W (Value.slice a xs.length c) 1 xs.length (strs xs)) => swrite_ok gs (Value.slice a xs.length c) xs gen used top down q gen (used + 1) p fk fK W hb h hN.out h1 h2
  rw [← hys] at hwr ⊢
  have HW := Lib.hid hwr
  have b0 : w.drew.cell? ⟨gs, 0, none⟩ = some (Value.slice a xs.length c) := blk_cell (show w.drew.heap[gs]? = _ from hB) (j := 0) rfl
  have b1 : w.drew.cell? ⟨gs, 1, none⟩ = some (.int .i64 gen) := blk_cell (show w.drew.heap[gs]? = _ from hB) (j := 1) rfl
  have b2 : w.drew.cell? ⟨gs, 2, none⟩ = some (.int .i64 used) := blk_cell (show w.drew.heap[gs]? = _ from hB) (j := 2) rfl
  have hd : SlAt w.drew (Value.slice a xs.length c) 1 xs.length (strs xs) := hS.stay (bdn (Below.refl _ _) 1)
  have BD : Hid (w.drew.heap[gs]? = some (.cells (SC (Value.slice a xs.length c) gen used top down) 26 (0, 0))) := Lib.hid hB
  have PD : Hid (w.drew.heap[gp]? = some (.cells #[.string p] 9 (0, 0))) := Lib.hid hP
  have FD : Hid (w.drew.heap[gf]? = some (.cells #[.int .i64 fk, .int .i64 fK] 45 (0, 0))) := Lib.hid hF
  have b3 : w.drew.cell? ⟨gp, 0, none⟩ = some (.string p) := blk_cell (show w.drew.heap[gp]? = _ from hP) (j := 0) rfl
  have b4 : w.drew.cell? ⟨gf, 0, none⟩ = some (.int .i64 fk) := blk_cell (show w.drew.heap[gf]? = _ from hF) (j := 0) rfl
  have b5 : w.drew.cell? ⟨gf, 1, none⟩ = some (.int .i64 fK) := blk_cell (show w.drew.heap[gf]? = _ from hF) (j := 1) rfl
  clear hpl hwr hS hB hP hF hne hq hys h1 h2 hl g0 g1 u0 u1
  go_enter Try.func49, Try.ntmps49
  go_wp2
  refine start_ (n := 15) (S := fun w' => w'.cell? ⟨gs, 0, none⟩ = some (Value.slice a xs.length c) ∧ w'.cell? ⟨gs, 1, none⟩ = some (.int .i64 gen) ∧ w'.cell? ⟨gs, 2, none⟩ = some (.int .i64 used) ∧ w'.cell? ⟨gp, 0, none⟩ = some (.string p) ∧ w'.cell? ⟨gf, 0, none⟩ = some (.int .i64 fk) ∧ w'.cell? ⟨gf, 1, none⟩ = some (.int .i64 fK)) (ds := [14]) #[false, false, false, false, false, false, false, false, false, false, false, false, false, false, false] (by kernel_rfl) rfl rfl ⟨b0, b1, b2, b3, b4, b5⟩ (fun hHeld => ?_)
  refine pure_ (i := 0) (N := some 3) (v := ?_) (a' := ?_) #[true, false, false, false, false, false, false, false, false, false, false, false, false, false, false] rfl rfl (by kernel_rfl) (fun _ _ _ h => h) (Or.inl ⟨by rfl, ?_⟩) ?_ ?_
  rotate_left
  · intro w'
    go_simp
    with_reducible rfl
  rotate_left
  · simp only [Act.put, List.setIfInBounds_toArray, List.set_cons_zero, List.set_cons_succ, i64_w, i32_w]
    rfl
  refine take_ (i := 1) (N := some 4) (v := ?_) (a' := ?_) #[true, true, false, false, false, false, false, false, false, false, false, false, false, false, false] rfl rfl (by kernel_rfl) (fun _ _ _ h => h) (Or.inl ⟨by rfl, ?_⟩) hHeld ?_ ?_
  rotate_left
  · rintro w' ⟨s0, s1, s2, s3, s4, s5⟩
    go_simp
    with_reducible rfl
  rotate_left
  · simp only [Act.put, List.setIfInBounds_toArray, List.set_cons_zero, List.set_cons_succ, i64_w, i32_w]
    rfl
  refine pure_ (i := 2) (N := some 5) (v := ?_) (a' := ?_) #[true, true, true, false, false, false, false, false, false, false, false, false, false, false, false] rfl rfl (by kernel_rfl) (fun _ _ _ h => h) (Or.inl ⟨by rfl, ?_⟩) ?_ ?_
  rotate_left
  · intro w'
    go_simp
    with_reducible rfl
  rotate_left
  · simp only [Act.put, List.setIfInBounds_toArray, List.set_cons_zero, List.set_cons_succ, i64_w, i32_w]
    rfl
  refine take_ (i := 3) (N := some 6) (v := ?_) (a' := ?_) #[true, true, true, true, false, false, false, false, false, false, false, false, false, false, false] rfl rfl (by kernel_rfl) (fun _ _ _ h => h) (Or.inl ⟨by rfl, ?_⟩) hHeld ?_ ?_
  rotate_left
  · rintro w' ⟨s0, s1, s2, s3, s4, s5⟩
    go_simp
    with_reducible rfl
  rotate_left
  · simp only [Act.put, List.setIfInBounds_toArray, List.set_cons_zero, List.set_cons_succ, i64_w, i32_w]
    rfl
  refine pure_ (i := 4) (N := some 7) (v := ?_) (a' := ?_) #[true, true, true, true, true, false, false, false, false, false, false, false, false, false, false] rfl rfl (by kernel_rfl) (fun _ _ _ h => h) (Or.inl ⟨by rfl, ?_⟩) ?_ ?_
  rotate_left
  · intro w'
    go_simp
    with_reducible rfl
  rotate_left
  · simp only [Act.put, List.setIfInBounds_toArray, List.set_cons_zero, List.set_cons_succ, i64_w, i32_w]
    rfl
  refine take_ (i := 5) (N := some 8) (v := ?_) (a' := ?_) #[true, true, true, true, true, true, false, false, false, false, false, false, false, false, false] rfl rfl (by kernel_rfl) (fun _ _ _ h => h) (Or.inl ⟨by rfl, ?_⟩) hHeld ?_ ?_
  rotate_left
  · rintro w' ⟨s0, s1, s2, s3, s4, s5⟩
    go_simp
    with_reducible rfl
  rotate_left
  · simp only [Act.put, List.setIfInBounds_toArray, List.set_cons_zero, List.set_cons_succ, i64_w, i32_w]
    rfl
  refine pure_ (i := 7) (N := some 10) (v := ?_) (a' := ?_) #[true, true, true, true, true, true, false, true, false, false, false, false, false, false, false] rfl rfl (by kernel_rfl) (fun _ _ _ h => h) (Or.inl ⟨by rfl, ?_⟩) ?_ ?_
  rotate_left
  · intro w'
    go_simp
    with_reducible rfl
  rotate_left
  · simp only [Act.put, List.setIfInBounds_toArray, List.set_cons_zero, List.set_cons_succ, i64_w, i32_w]
    rfl
  refine take_ (i := 8) (N := some 11) (v := ?_) (a' := ?_) #[true, true, true, true, true, true, false, true, true, false, false, false, false, false, false] rfl rfl (by kernel_rfl) (fun _ _ _ h => h) (Or.inl ⟨by rfl, ?_⟩) hHeld ?_ ?_
  rotate_left
  · rintro w' ⟨s0, s1, s2, s3, s4, s5⟩
    go_simp
    with_reducible rfl
  rotate_left
  · simp only [Act.put, List.setIfInBounds_toArray, List.set_cons_zero, List.set_cons_succ, i64_w, i32_w]
    rfl
  refine pure_ (i := 9) (N := some 12) (v := ?_) (a' := ?_) #[true, true, true, true, true, true, false, true, true, true, false, false, false, false, false] rfl rfl (by kernel_rfl) (fun _ _ _ h => h) (Or.inl ⟨by rfl, ?_⟩) ?_ ?_
  rotate_left
  · intro w'
    go_simp
    with_reducible rfl
  rotate_left
  · simp only [Act.put, List.setIfInBounds_toArray, List.set_cons_zero, List.set_cons_succ, i64_w, i32_w]
    rfl
  refine take_ (i := 10) (N := some 13) (v := ?_) (a' := ?_) #[true, true, true, true, true, true, false, true, true, true, true, false, false, false, false] rfl rfl (by kernel_rfl) (fun _ _ _ h => h) (Or.inl ⟨by rfl, ?_⟩) hHeld ?_ ?_
  rotate_left
  · rintro w' ⟨s0, s1, s2, s3, s4, s5⟩
    go_simp
    with_reducible rfl
  rotate_left
  · simp only [Act.put, List.setIfInBounds_toArray, List.set_cons_zero, List.set_cons_succ, i64_w, i32_w]
    rfl
  refine pure_ (i := 11) (N := some 14) (v := ?_) (a' := ?_) #[true, true, true, true, true, true, false, true, true, true, true, true, false, false, false] rfl rfl (by kernel_rfl) (fun _ _ _ h => h) (Or.inl ⟨by rfl, ?_⟩) ?_ ?_
  rotate_left
  · intro w'
    go_simp
    with_reducible rfl
  rotate_left
  · simp only [Act.put, List.setIfInBounds_toArray, List.set_cons_zero, List.set_cons_succ, i64_w, i32_w]
    rfl
  refine take_ (i := 12) (N := some 15) (v := ?_) (a' := ?_) #[true, true, true, true, true, true, false, true, true, true, true, true, true, false, false] rfl rfl (by kernel_rfl) (fun _ _ _ h => h) (Or.inl ⟨by rfl, ?_⟩) hHeld ?_ ?_
  rotate_left
  · rintro w' ⟨s0, s1, s2, s3, s4, s5⟩
    go_simp
    with_reducible rfl
  rotate_left
  · simp only [Act.put, List.setIfInBounds_toArray, List.set_cons_zero, List.set_cons_succ, i64_w, i32_w]
    rfl
  refine take_ (i := 13) (N := some 16) (v := ?_) (a' := ?_) #[true, true, true, true, true, true, false, true, true, true, true, true, true, true, false] rfl rfl (by kernel_rfl) (fun _ _ _ h => h) (Or.inl ⟨by rfl, ?_⟩) hHeld ?_ ?_
  rotate_left
  · rintro w' ⟨s0, s1, s2, s3, s4, s5⟩
    go_simp
    with_reducible rfl
  rotate_left
  · simp only [Act.put, List.setIfInBounds_toArray, List.set_cons_zero, List.set_cons_succ, i64_w, i32_w]
    rfl
  refine one_ (i := 6) (N := some 9) #[true, true, true, true, true, true, true, true, true, true, true, true, true, true, false] rfl rfl (by kernel_rfl) (by decide) (fun K hK => ?_)
  refine goes_ Try.func38 (by kernel_rfl) rfl #[.agg #[.slice a xs.length c], .int .i64 gen, .int .i64 used] (by rfl) rfl rfl (by (try simp only [List.map_toArray, List.map_cons, List.map_nil]); first | done | rfl) ?_
  refine (HP.out _ hd).mono ?_
  rintro e w1 ⟨rfl, hb1⟩
  refine ⟨_, rfl, ?_⟩
  have B1 := Lib.hid (blk_call hb1 BD.out)
  have P1 := Lib.hid (blk_call hb1 PD.out)
  have F1 := Lib.hid (blk_call hb1 FD.out)
  have s1 := Lib.hid (hd.stay hb1)
  refine hK.out _ _ ⟨blk_cell B1.out (j := 0) rfl, blk_cell B1.out (j := 1) rfl, blk_cell B1.out (j := 2) rfl, blk_cell P1.out (j := 0) rfl, blk_cell F1.out (j := 0) rfl, blk_cell F1.out (j := 1) rfl⟩ (fun hHeld => ?_)
  clear hK K
  refine norm_ (a' := ?_) ?_ ?_
  rotate_left
  · show Act.put _ (some 9) _ = _
    simp only [Act.put, List.setIfInBounds_toArray, List.set_cons_zero, List.set_cons_succ, i64_w, i32_w]
    rfl
  refine last_ (i := 14) (N := some 17) #[true, true, true, true, true, true, true, true, true, true, true, true, true, true, true] rfl rfl (by kernel_rfl) (by decide) (fun K hK => ?_)
  refine goes_ Try.func50 (by kernel_rfl) rfl #[.pointer (some ⟨gs, 0, none⟩), .int .i64 q, .int .i64 gen, .int .i64 (used + 1), .string p, .agg #[.int .i64 fk, .int .i64 fK]] (by rfl) rfl rfl (by (try simp only [List.map_toArray, List.map_cons, List.map_nil]); first | done | rfl) ?_
  refine (HW.out _ B1.out s1.out).mono ?_
  rintro e w2 ⟨v2, rfl, hB2, hS2, hF2, hG2⟩
  refine ⟨_, rfl, ?_⟩
  refine hK.out _ _ ?_
  clear hK K
  refine norm_ (a' := ?_) ?_ ?_
  rotate_left
  · show Act.put _ (some 17) _ = _
    simp only [Act.put, List.setIfInBounds_toArray, List.set_cons_zero, List.set_cons_succ, i64_w, i32_w]
    rfl
  refine done_ (by kernel_rfl) ?_
  have B2 := Lib.hid hB2
  have d2 : w2.cell? ⟨gs, 2, none⟩ = some (.int .i64 used) := blk_cell B2.out (j := 2) rfl
  have z2 := blk_free B2.out 2
  go_wp2
  go_end0
  exact ⟨v2, rfl, blk_set B2.out 2 _, hS2.store (p := ⟨gs, 2, none⟩) (fun b hb => by have h1 := hF2 b hb; have h2 : gs < w.heap.size := blk_lt HB.out; have h3 : w.drew.heap.size ≤ w1.heap.size := hb1.size; have h4 : w.drew.heap.size = w.heap.size := rfl; show b ≠ gs; omega) _, hF2.mono (show w.drew.heap.size ≤ _ from hb1.size), gr_set4 ((gr_bel (row := some gs) (show Below w.heap.size w w1 from (bdn (Below.refl _ _) 1).trans ⟨hb1.os, hb1.tape, hb1.output, hb1.size, fun i hi => hb1.block i hi⟩)).trans hG2) _⟩
set_option maxHeartbeats 4000000 in
theorem app1_fail (gs gp gf : Nat) (v : Value) (xs : List ByteArray) (gen used top : Int) (down : Bool) (p : ByteArray) (fK : Int) (w : World)
    (hB : w.heap[gs]? = some (.cells (SC v gen used top down) 26 (0, 0))) (hP : w.heap[gp]? = some (.cells #[.string p] 9 (0, 0))) (hF : w.heap[gf]? = some (.cells #[.int .i64 1, .int .i64 fK] 45 (0, 0)))
    (hS : SlAt w v 1 xs.length (strs xs)) (hne : ∀ b, v.ownBlock = some b → b ≠ gs) (hl : xs.length ≤ 1000) (g0 : 0 ≤ gen) (g1 : gen ≤ 1000) (u0 : 0 ≤ used) (u1 : used ≤ 900) :
    Calls Try.prog 49 #[.pointer (some ⟨gs, 0, none⟩), .pointer (some ⟨gp, 0, none⟩), .pointer (some ⟨gf, 0, none⟩)] w fun e w' =>
      e = .panicked [{ v := stopV 8, recovered := false }] ∧ Below w.heap.size w w' := by
  obtain ⟨a, c, rfl, hnc, hcm⟩ := hS.form
  have HB := Lib.hid hB
  have HS := Lib.hid hS
  have hN := Lib.hid hne
  obtain ⟨q, hq⟩ : ∃ q, q = placeD xs gen used := ⟨_, rfl⟩
  have hpl := fun W (h : SlAt W (Value.slice a xs.length c) 1 xs.length (strs xs)) => place_any _ xs gen used W h hl g0 g1 u0 (by omega)
  rw [← hq] at hpl
  have HP := Lib.hid hpl
  have hw64 : wrap64 (used + 1) = used + 1 := by unfold wrap64; omega
  have hwi : IntKind.i64.wrap (used + 1) = used + 1 := by rw [IntKind.wrap_i64]; omega
  have hwr := fun W (hb : W.heap[gs]? = some (.cells (SC (Value.slice a xs.length c) gen used top down) 26 (0, 0))) => swrite_fail gs (Value.slice a xs.length c) gen used top down q gen (used + 1) p fK W hb
  have HW := Lib.hid hwr
  have b0 : w.drew.cell? ⟨gs, 0, none⟩ = some (Value.slice a xs.length c) := blk_cell (show w.drew.heap[gs]? = _ from hB) (j := 0) rfl
  have b1 : w.drew.cell? ⟨gs, 1, none⟩ = some (.int .i64 gen) := blk_cell (show w.drew.heap[gs]? = _ from hB) (j := 1) rfl
  have b2 : w.drew.cell? ⟨gs, 2, none⟩ = some (.int .i64 used) := blk_cell (show w.drew.heap[gs]? = _ from hB) (j := 2) rfl
  have hd : SlAt w.drew (Value.slice a xs.length c) 1 xs.length (strs xs) := hS.stay (bdn (Below.refl _ _) 1)
  have BD : Hid (w.drew.heap[gs]? = some (.cells (SC (Value.slice a xs.length c) gen used top down) 26 (0, 0))) := Lib.hid hB
  have PD : Hid (w.drew.heap[gp]? = some (.cells #[.string p] 9 (0, 0))) := Lib.hid hP
  have FD : Hid (w.drew.heap[gf]? = some (.cells #[.int .i64 1, .int .i64 fK] 45 (0, 0))) := Lib.hid hF
  have b3 : w.drew.cell? ⟨gp, 0, none⟩ = some (.string p) := blk_cell (show w.drew.heap[gp]? = _ from hP) (j := 0) rfl
  have b4 : w.drew.cell? ⟨gf, 0, none⟩ = some (.int .i64 1) := blk_cell (show w.drew.heap[gf]? = _ from hF) (j := 0) rfl
  have b5 : w.drew.cell? ⟨gf, 1, none⟩ = some (.int .i64 fK) := blk_cell (show w.drew.heap[gf]? = _ from hF) (j := 1) rfl
  clear hpl hwr hS hB hP hF hne hq hl g0 g1 u0 u1
  go_enter Try.func49, Try.ntmps49
  go_wp2
  refine start_ (n := 15) (S := fun w' => w'.cell? ⟨gs, 0, none⟩ = some (Value.slice a xs.length c) ∧ w'.cell? ⟨gs, 1, none⟩ = some (.int .i64 gen) ∧ w'.cell? ⟨gs, 2, none⟩ = some (.int .i64 used) ∧ w'.cell? ⟨gp, 0, none⟩ = some (.string p) ∧ w'.cell? ⟨gf, 0, none⟩ = some (.int .i64 1) ∧ w'.cell? ⟨gf, 1, none⟩ = some (.int .i64 fK)) (ds := [14]) #[false, false, false, false, false, false, false, false, false, false, false, false, false, false, false] (by kernel_rfl) rfl rfl ⟨b0, b1, b2, b3, b4, b5⟩ (fun hHeld => ?_)
  refine pure_ (i := 0) (N := some 3) (v := ?_) (a' := ?_) #[true, false, false, false, false, false, false, false, false, false, false, false, false, false, false] rfl rfl (by kernel_rfl) (fun _ _ _ h => h) (Or.inl ⟨by rfl, ?_⟩) ?_ ?_
  rotate_left
  · intro w'
    go_simp
    with_reducible rfl
  rotate_left
  · simp only [Act.put, List.setIfInBounds_toArray, List.set_cons_zero, List.set_cons_succ, i64_w, i32_w]
    rfl
  refine take_ (i := 1) (N := some 4) (v := ?_) (a' := ?_) #[true, true, false, false, false, false, false, false, false, false, false, false, false, false, false] rfl rfl (by kernel_rfl) (fun _ _ _ h => h) (Or.inl ⟨by rfl, ?_⟩) hHeld ?_ ?_
  rotate_left
  · rintro w' ⟨s0, s1, s2, s3, s4, s5⟩
    go_simp
    with_reducible rfl
  rotate_left
  · simp only [Act.put, List.setIfInBounds_toArray, List.set_cons_zero, List.set_cons_succ, i64_w, i32_w]
    rfl
  refine pure_ (i := 2) (N := some 5) (v := ?_) (a' := ?_) #[true, true, true, false, false, false, false, false, false, false, false, false, false, false, false] rfl rfl (by kernel_rfl) (fun _ _ _ h => h) (Or.inl ⟨by rfl, ?_⟩) ?_ ?_
  rotate_left
  · intro w'
    go_simp
    with_reducible rfl
  rotate_left
  · simp only [Act.put, List.setIfInBounds_toArray, List.set_cons_zero, List.set_cons_succ, i64_w, i32_w]
    rfl
  refine take_ (i := 3) (N := some 6) (v := ?_) (a' := ?_) #[true, true, true, true, false, false, false, false, false, false, false, false, false, false, false] rfl rfl (by kernel_rfl) (fun _ _ _ h => h) (Or.inl ⟨by rfl, ?_⟩) hHeld ?_ ?_
  rotate_left
  · rintro w' ⟨s0, s1, s2, s3, s4, s5⟩
    go_simp
    with_reducible rfl
  rotate_left
  · simp only [Act.put, List.setIfInBounds_toArray, List.set_cons_zero, List.set_cons_succ, i64_w, i32_w]
    rfl
  refine pure_ (i := 4) (N := some 7) (v := ?_) (a' := ?_) #[true, true, true, true, true, false, false, false, false, false, false, false, false, false, false] rfl rfl (by kernel_rfl) (fun _ _ _ h => h) (Or.inl ⟨by rfl, ?_⟩) ?_ ?_
  rotate_left
  · intro w'
    go_simp
    with_reducible rfl
  rotate_left
  · simp only [Act.put, List.setIfInBounds_toArray, List.set_cons_zero, List.set_cons_succ, i64_w, i32_w]
    rfl
  refine take_ (i := 5) (N := some 8) (v := ?_) (a' := ?_) #[true, true, true, true, true, true, false, false, false, false, false, false, false, false, false] rfl rfl (by kernel_rfl) (fun _ _ _ h => h) (Or.inl ⟨by rfl, ?_⟩) hHeld ?_ ?_
  rotate_left
  · rintro w' ⟨s0, s1, s2, s3, s4, s5⟩
    go_simp
    with_reducible rfl
  rotate_left
  · simp only [Act.put, List.setIfInBounds_toArray, List.set_cons_zero, List.set_cons_succ, i64_w, i32_w]
    rfl
  refine pure_ (i := 7) (N := some 10) (v := ?_) (a' := ?_) #[true, true, true, true, true, true, false, true, false, false, false, false, false, false, false] rfl rfl (by kernel_rfl) (fun _ _ _ h => h) (Or.inl ⟨by rfl, ?_⟩) ?_ ?_
  rotate_left
  · intro w'
    go_simp
    with_reducible rfl
  rotate_left
  · simp only [Act.put, List.setIfInBounds_toArray, List.set_cons_zero, List.set_cons_succ, i64_w, i32_w]
    rfl
  refine take_ (i := 8) (N := some 11) (v := ?_) (a' := ?_) #[true, true, true, true, true, true, false, true, true, false, false, false, false, false, false] rfl rfl (by kernel_rfl) (fun _ _ _ h => h) (Or.inl ⟨by rfl, ?_⟩) hHeld ?_ ?_
  rotate_left
  · rintro w' ⟨s0, s1, s2, s3, s4, s5⟩
    go_simp
    with_reducible rfl
  rotate_left
  · simp only [Act.put, List.setIfInBounds_toArray, List.set_cons_zero, List.set_cons_succ, i64_w, i32_w]
    rfl
  refine pure_ (i := 9) (N := some 12) (v := ?_) (a' := ?_) #[true, true, true, true, true, true, false, true, true, true, false, false, false, false, false] rfl rfl (by kernel_rfl) (fun _ _ _ h => h) (Or.inl ⟨by rfl, ?_⟩) ?_ ?_
  rotate_left
  · intro w'
    go_simp
    with_reducible rfl
  rotate_left
  · simp only [Act.put, List.setIfInBounds_toArray, List.set_cons_zero, List.set_cons_succ, i64_w, i32_w]
    rfl
  refine take_ (i := 10) (N := some 13) (v := ?_) (a' := ?_) #[true, true, true, true, true, true, false, true, true, true, true, false, false, false, false] rfl rfl (by kernel_rfl) (fun _ _ _ h => h) (Or.inl ⟨by rfl, ?_⟩) hHeld ?_ ?_
  rotate_left
  · rintro w' ⟨s0, s1, s2, s3, s4, s5⟩
    go_simp
    with_reducible rfl
  rotate_left
  · simp only [Act.put, List.setIfInBounds_toArray, List.set_cons_zero, List.set_cons_succ, i64_w, i32_w]
    rfl
  refine pure_ (i := 11) (N := some 14) (v := ?_) (a' := ?_) #[true, true, true, true, true, true, false, true, true, true, true, true, false, false, false] rfl rfl (by kernel_rfl) (fun _ _ _ h => h) (Or.inl ⟨by rfl, ?_⟩) ?_ ?_
  rotate_left
  · intro w'
    go_simp
    with_reducible rfl
  rotate_left
  · simp only [Act.put, List.setIfInBounds_toArray, List.set_cons_zero, List.set_cons_succ, i64_w, i32_w]
    rfl
  refine take_ (i := 12) (N := some 15) (v := ?_) (a' := ?_) #[true, true, true, true, true, true, false, true, true, true, true, true, true, false, false] rfl rfl (by kernel_rfl) (fun _ _ _ h => h) (Or.inl ⟨by rfl, ?_⟩) hHeld ?_ ?_
  rotate_left
  · rintro w' ⟨s0, s1, s2, s3, s4, s5⟩
    go_simp
    with_reducible rfl
  rotate_left
  · simp only [Act.put, List.setIfInBounds_toArray, List.set_cons_zero, List.set_cons_succ, i64_w, i32_w]
    rfl
  refine take_ (i := 13) (N := some 16) (v := ?_) (a' := ?_) #[true, true, true, true, true, true, false, true, true, true, true, true, true, true, false] rfl rfl (by kernel_rfl) (fun _ _ _ h => h) (Or.inl ⟨by rfl, ?_⟩) hHeld ?_ ?_
  rotate_left
  · rintro w' ⟨s0, s1, s2, s3, s4, s5⟩
    go_simp
    with_reducible rfl
  rotate_left
  · simp only [Act.put, List.setIfInBounds_toArray, List.set_cons_zero, List.set_cons_succ, i64_w, i32_w]
    rfl
  refine one_ (i := 6) (N := some 9) #[true, true, true, true, true, true, true, true, true, true, true, true, true, true, false] rfl rfl (by kernel_rfl) (by decide) (fun K hK => ?_)
  refine goes_ Try.func38 (by kernel_rfl) rfl #[.agg #[.slice a xs.length c], .int .i64 gen, .int .i64 used] (by rfl) rfl rfl (by (try simp only [List.map_toArray, List.map_cons, List.map_nil]); first | done | rfl) ?_
  refine (HP.out _ hd).mono ?_
  rintro e w1 ⟨rfl, hb1⟩
  refine ⟨_, rfl, ?_⟩
  have B1 := Lib.hid (blk_call hb1 BD.out)
  have P1 := Lib.hid (blk_call hb1 PD.out)
  have F1 := Lib.hid (blk_call hb1 FD.out)
  have s1 := Lib.hid (hd.stay hb1)
  refine hK.out _ _ ⟨blk_cell B1.out (j := 0) rfl, blk_cell B1.out (j := 1) rfl, blk_cell B1.out (j := 2) rfl, blk_cell P1.out (j := 0) rfl, blk_cell F1.out (j := 0) rfl, blk_cell F1.out (j := 1) rfl⟩ (fun hHeld => ?_)
  clear hK K
  refine norm_ (a' := ?_) ?_ ?_
  rotate_left
  · show Act.put _ (some 9) _ = _
    simp only [Act.put, List.setIfInBounds_toArray, List.set_cons_zero, List.set_cons_succ, i64_w, i32_w]
    rfl
  refine last_ (i := 14) (N := some 17) #[true, true, true, true, true, true, true, true, true, true, true, true, true, true, true] rfl rfl (by kernel_rfl) (by decide) (fun K hK => ?_)
  refine goesP_ Try.func50 (by kernel_rfl) rfl #[.pointer (some ⟨gs, 0, none⟩), .int .i64 q, .int .i64 gen, .int .i64 (used + 1), .string p, .agg #[.int .i64 1, .int .i64 fK]] (by rfl) rfl (by (try simp only [List.map_toArray, List.map_cons, List.map_nil]); first | done | rfl) ?_
  refine (HW.out _ B1.out).mono ?_
  rintro e w2 ⟨rfl, hb2⟩
  refine ⟨_, rfl, ?_⟩
  exact ⟨rfl, rfl, bel (show Below w.heap.size w w1 from (bdn (Below.refl _ _) 1).trans ⟨hb1.os, hb1.tape, hb1.output, hb1.size, fun i hi => hb1.block i hi⟩) hb2⟩
set_option maxHeartbeats 4000000 in
theorem app1_crash (gs gp gf : Nat) (v : Value) (xs : List ByteArray) (gen used top : Int) (down : Bool) (p : ByteArray) (fK : Int) (w : World)
    (hB : w.heap[gs]? = some (.cells (SC v gen used top down) 26 (0, 0))) (hP : w.heap[gp]? = some (.cells #[.string p] 9 (0, 0))) (hF : w.heap[gf]? = some (.cells #[.int .i64 2, .int .i64 fK] 45 (0, 0)))
    (hS : SlAt w v 1 xs.length (strs xs)) (hne : ∀ b, v.ownBlock = some b → b ≠ gs) (hl : xs.length ≤ 1000) (g0 : 0 ≤ gen) (g1 : gen ≤ 1000) (u0 : 0 ≤ used) (u1 : used ≤ 900) :
    Calls Try.prog 49 #[.pointer (some ⟨gs, 0, none⟩), .pointer (some ⟨gp, 0, none⟩), .pointer (some ⟨gf, 0, none⟩)] w fun e w' =>
      ∃ v', e = .panicked [{ v := stopV 9, recovered := false }] ∧ w'.heap[gs]? = some (.cells (SC v' gen used top true) 26 (0, 0)) ∧ SlAt w' v' 1 (tearL xs (placeD xs gen used) (sealS gen (used + 1) p) fK).length (strs (tearL xs (placeD xs gen used) (sealS gen (used + 1) p) fK)) ∧ FreshV w.heap.size v' ∧ w.grownBy w' (some gs) := by
  obtain ⟨a, c, rfl, hnc, hcm⟩ := hS.form
  have HB := Lib.hid hB
  have HS := Lib.hid hS
  have hN := Lib.hid hne
  obtain ⟨q, hq⟩ : ∃ q, q = placeD xs gen used := ⟨_, rfl⟩
  have hpl := fun W (h : SlAt W (Value.slice a xs.length c) 1 xs.length (strs xs)) => place_any _ xs gen used W h hl g0 g1 u0 (by omega)
  rw [← hq] at hpl ⊢
  have HP := Lib.hid hpl
  have hw64 : wrap64 (used + 1) = used + 1 := by unfold wrap64; omega
  have hwi : IntKind.i64.wrap (used + 1) = used + 1 := by rw [IntKind.wrap_i64]; omega
  obtain ⟨ys, hys⟩ : ∃ ys, ys = tearL xs q (sealS gen (used + 1) p) fK := ⟨_, rfl⟩
  have hwr := fun W (hb : W.heap[gs]? = some (.cells (SC (Value.slice a xs.length c) gen used top down) 26 (0, 0))) (h : SlAt W (Value.slice a xs.length c) 1 xs.length (strs xs)) => swrite_crash gs (Value.slice a xs.length c) xs gen used top down q gen (used + 1) p fK W hb h hN.out
  rw [← hys] at hwr ⊢
  have HW := Lib.hid hwr
  have b0 : w.drew.cell? ⟨gs, 0, none⟩ = some (Value.slice a xs.length c) := blk_cell (show w.drew.heap[gs]? = _ from hB) (j := 0) rfl
  have b1 : w.drew.cell? ⟨gs, 1, none⟩ = some (.int .i64 gen) := blk_cell (show w.drew.heap[gs]? = _ from hB) (j := 1) rfl
  have b2 : w.drew.cell? ⟨gs, 2, none⟩ = some (.int .i64 used) := blk_cell (show w.drew.heap[gs]? = _ from hB) (j := 2) rfl
  have hd : SlAt w.drew (Value.slice a xs.length c) 1 xs.length (strs xs) := hS.stay (bdn (Below.refl _ _) 1)
  have BD : Hid (w.drew.heap[gs]? = some (.cells (SC (Value.slice a xs.length c) gen used top down) 26 (0, 0))) := Lib.hid hB
  have PD : Hid (w.drew.heap[gp]? = some (.cells #[.string p] 9 (0, 0))) := Lib.hid hP
  have FD : Hid (w.drew.heap[gf]? = some (.cells #[.int .i64 2, .int .i64 fK] 45 (0, 0))) := Lib.hid hF
  have b3 : w.drew.cell? ⟨gp, 0, none⟩ = some (.string p) := blk_cell (show w.drew.heap[gp]? = _ from hP) (j := 0) rfl
  have b4 : w.drew.cell? ⟨gf, 0, none⟩ = some (.int .i64 2) := blk_cell (show w.drew.heap[gf]? = _ from hF) (j := 0) rfl
  have b5 : w.drew.cell? ⟨gf, 1, none⟩ = some (.int .i64 fK) := blk_cell (show w.drew.heap[gf]? = _ from hF) (j := 1) rfl
  clear hpl hwr hS hB hP hF hne hq hys hl g0 g1 u0 u1
  go_enter Try.func49, Try.ntmps49
  go_wp2
  refine start_ (n := 15) (S := fun w' => w'.cell? ⟨gs, 0, none⟩ = some (Value.slice a xs.length c) ∧ w'.cell? ⟨gs, 1, none⟩ = some (.int .i64 gen) ∧ w'.cell? ⟨gs, 2, none⟩ = some (.int .i64 used) ∧ w'.cell? ⟨gp, 0, none⟩ = some (.string p) ∧ w'.cell? ⟨gf, 0, none⟩ = some (.int .i64 2) ∧ w'.cell? ⟨gf, 1, none⟩ = some (.int .i64 fK)) (ds := [14]) #[false, false, false, false, false, false, false, false, false, false, false, false, false, false, false] (by kernel_rfl) rfl rfl ⟨b0, b1, b2, b3, b4, b5⟩ (fun hHeld => ?_)
  refine pure_ (i := 0) (N := some 3) (v := ?_) (a' := ?_) #[true, false, false, false, false, false, false, false, false, false, false, false, false, false, false] rfl rfl (by kernel_rfl) (fun _ _ _ h => h) (Or.inl ⟨by rfl, ?_⟩) ?_ ?_
  rotate_left
  · intro w'
    go_simp
    with_reducible rfl
  rotate_left
  · simp only [Act.put, List.setIfInBounds_toArray, List.set_cons_zero, List.set_cons_succ, i64_w, i32_w]
    rfl
  refine take_ (i := 1) (N := some 4) (v := ?_) (a' := ?_) #[true, true, false, false, false, false, false, false, false, false, false, false, false, false, false] rfl rfl (by kernel_rfl) (fun _ _ _ h => h) (Or.inl ⟨by rfl, ?_⟩) hHeld ?_ ?_
  rotate_left
  · rintro w' ⟨s0, s1, s2, s3, s4, s5⟩
    go_simp
    with_reducible rfl
  rotate_left
  · simp only [Act.put, List.setIfInBounds_toArray, List.set_cons_zero, List.set_cons_succ, i64_w, i32_w]
    rfl
  refine pure_ (i := 2) (N := some 5) (v := ?_) (a' := ?_) #[true, true, true, false, false, false, false, false, false, false, false, false, false, false, false] rfl rfl (by kernel_rfl) (fun _ _ _ h => h) (Or.inl ⟨by rfl, ?_⟩) ?_ ?_
  rotate_left
  · intro w'
    go_simp
    with_reducible rfl
  rotate_left
  · simp only [Act.put, List.setIfInBounds_toArray, List.set_cons_zero, List.set_cons_succ, i64_w, i32_w]
    rfl
  refine take_ (i := 3) (N := some 6) (v := ?_) (a' := ?_) #[true, true, true, true, false, false, false, false, false, false, false, false, false, false, false] rfl rfl (by kernel_rfl) (fun _ _ _ h => h) (Or.inl ⟨by rfl, ?_⟩) hHeld ?_ ?_
  rotate_left
  · rintro w' ⟨s0, s1, s2, s3, s4, s5⟩
    go_simp
    with_reducible rfl
  rotate_left
  · simp only [Act.put, List.setIfInBounds_toArray, List.set_cons_zero, List.set_cons_succ, i64_w, i32_w]
    rfl
  refine pure_ (i := 4) (N := some 7) (v := ?_) (a' := ?_) #[true, true, true, true, true, false, false, false, false, false, false, false, false, false, false] rfl rfl (by kernel_rfl) (fun _ _ _ h => h) (Or.inl ⟨by rfl, ?_⟩) ?_ ?_
  rotate_left
  · intro w'
    go_simp
    with_reducible rfl
  rotate_left
  · simp only [Act.put, List.setIfInBounds_toArray, List.set_cons_zero, List.set_cons_succ, i64_w, i32_w]
    rfl
  refine take_ (i := 5) (N := some 8) (v := ?_) (a' := ?_) #[true, true, true, true, true, true, false, false, false, false, false, false, false, false, false] rfl rfl (by kernel_rfl) (fun _ _ _ h => h) (Or.inl ⟨by rfl, ?_⟩) hHeld ?_ ?_
  rotate_left
  · rintro w' ⟨s0, s1, s2, s3, s4, s5⟩
    go_simp
    with_reducible rfl
  rotate_left
  · simp only [Act.put, List.setIfInBounds_toArray, List.set_cons_zero, List.set_cons_succ, i64_w, i32_w]
    rfl
  refine pure_ (i := 7) (N := some 10) (v := ?_) (a' := ?_) #[true, true, true, true, true, true, false, true, false, false, false, false, false, false, false] rfl rfl (by kernel_rfl) (fun _ _ _ h => h) (Or.inl ⟨by rfl, ?_⟩) ?_ ?_
  rotate_left
  · intro w'
    go_simp
    with_reducible rfl
  rotate_left
  · simp only [Act.put, List.setIfInBounds_toArray, List.set_cons_zero, List.set_cons_succ, i64_w, i32_w]
    rfl
  refine take_ (i := 8) (N := some 11) (v := ?_) (a' := ?_) #[true, true, true, true, true, true, false, true, true, false, false, false, false, false, false] rfl rfl (by kernel_rfl) (fun _ _ _ h => h) (Or.inl ⟨by rfl, ?_⟩) hHeld ?_ ?_
  rotate_left
  · rintro w' ⟨s0, s1, s2, s3, s4, s5⟩
    go_simp
    with_reducible rfl
  rotate_left
  · simp only [Act.put, List.setIfInBounds_toArray, List.set_cons_zero, List.set_cons_succ, i64_w, i32_w]
    rfl
  refine pure_ (i := 9) (N := some 12) (v := ?_) (a' := ?_) #[true, true, true, true, true, true, false, true, true, true, false, false, false, false, false] rfl rfl (by kernel_rfl) (fun _ _ _ h => h) (Or.inl ⟨by rfl, ?_⟩) ?_ ?_
  rotate_left
  · intro w'
    go_simp
    with_reducible rfl
  rotate_left
  · simp only [Act.put, List.setIfInBounds_toArray, List.set_cons_zero, List.set_cons_succ, i64_w, i32_w]
    rfl
  refine take_ (i := 10) (N := some 13) (v := ?_) (a' := ?_) #[true, true, true, true, true, true, false, true, true, true, true, false, false, false, false] rfl rfl (by kernel_rfl) (fun _ _ _ h => h) (Or.inl ⟨by rfl, ?_⟩) hHeld ?_ ?_
  rotate_left
  · rintro w' ⟨s0, s1, s2, s3, s4, s5⟩
    go_simp
    with_reducible rfl
  rotate_left
  · simp only [Act.put, List.setIfInBounds_toArray, List.set_cons_zero, List.set_cons_succ, i64_w, i32_w]
    rfl
  refine pure_ (i := 11) (N := some 14) (v := ?_) (a' := ?_) #[true, true, true, true, true, true, false, true, true, true, true, true, false, false, false] rfl rfl (by kernel_rfl) (fun _ _ _ h => h) (Or.inl ⟨by rfl, ?_⟩) ?_ ?_
  rotate_left
  · intro w'
    go_simp
    with_reducible rfl
  rotate_left
  · simp only [Act.put, List.setIfInBounds_toArray, List.set_cons_zero, List.set_cons_succ, i64_w, i32_w]
    rfl
  refine take_ (i := 12) (N := some 15) (v := ?_) (a' := ?_) #[true, true, true, true, true, true, false, true, true, true, true, true, true, false, false] rfl rfl (by kernel_rfl) (fun _ _ _ h => h) (Or.inl ⟨by rfl, ?_⟩) hHeld ?_ ?_
  rotate_left
  · rintro w' ⟨s0, s1, s2, s3, s4, s5⟩
    go_simp
    with_reducible rfl
  rotate_left
  · simp only [Act.put, List.setIfInBounds_toArray, List.set_cons_zero, List.set_cons_succ, i64_w, i32_w]
    rfl
  refine take_ (i := 13) (N := some 16) (v := ?_) (a' := ?_) #[true, true, true, true, true, true, false, true, true, true, true, true, true, true, false] rfl rfl (by kernel_rfl) (fun _ _ _ h => h) (Or.inl ⟨by rfl, ?_⟩) hHeld ?_ ?_
  rotate_left
  · rintro w' ⟨s0, s1, s2, s3, s4, s5⟩
    go_simp
    with_reducible rfl
  rotate_left
  · simp only [Act.put, List.setIfInBounds_toArray, List.set_cons_zero, List.set_cons_succ, i64_w, i32_w]
    rfl
  refine one_ (i := 6) (N := some 9) #[true, true, true, true, true, true, true, true, true, true, true, true, true, true, false] rfl rfl (by kernel_rfl) (by decide) (fun K hK => ?_)
  refine goes_ Try.func38 (by kernel_rfl) rfl #[.agg #[.slice a xs.length c], .int .i64 gen, .int .i64 used] (by rfl) rfl rfl (by (try simp only [List.map_toArray, List.map_cons, List.map_nil]); first | done | rfl) ?_
  refine (HP.out _ hd).mono ?_
  rintro e w1 ⟨rfl, hb1⟩
  refine ⟨_, rfl, ?_⟩
  have B1 := Lib.hid (blk_call hb1 BD.out)
  have P1 := Lib.hid (blk_call hb1 PD.out)
  have F1 := Lib.hid (blk_call hb1 FD.out)
  have s1 := Lib.hid (hd.stay hb1)
  refine hK.out _ _ ⟨blk_cell B1.out (j := 0) rfl, blk_cell B1.out (j := 1) rfl, blk_cell B1.out (j := 2) rfl, blk_cell P1.out (j := 0) rfl, blk_cell F1.out (j := 0) rfl, blk_cell F1.out (j := 1) rfl⟩ (fun hHeld => ?_)
  clear hK K
  refine norm_ (a' := ?_) ?_ ?_
  rotate_left
  · show Act.put _ (some 9) _ = _
    simp only [Act.put, List.setIfInBounds_toArray, List.set_cons_zero, List.set_cons_succ, i64_w, i32_w]
    rfl
  refine last_ (i := 14) (N := some 17) #[true, true, true, true, true, true, true, true, true, true, true, true, true, true, true] rfl rfl (by kernel_rfl) (by decide) (fun K hK => ?_)
  refine goesP_ Try.func50 (by kernel_rfl) rfl #[.pointer (some ⟨gs, 0, none⟩), .int .i64 q, .int .i64 gen, .int .i64 (used + 1), .string p, .agg #[.int .i64 2, .int .i64 fK]] (by rfl) rfl (by (try simp only [List.map_toArray, List.map_cons, List.map_nil]); first | done | rfl) ?_
  refine (HW.out _ B1.out s1.out).mono ?_
  rintro e w2 ⟨v2, rfl, hB2, hS2, hF2, hG2⟩
  refine ⟨_, rfl, ?_⟩
  exact ⟨rfl, v2, rfl, hB2, hS2, hF2.mono (show w.drew.heap.size ≤ _ from hb1.size), (gr_bel (row := some gs) (show Below w.heap.size w w1 from (bdn (Below.refl _ _) 1).trans ⟨hb1.os, hb1.tape, hb1.output, hb1.size, fun i hi => hb1.block i hi⟩)).trans hG2⟩
theorem gr_setnew {w w1 : World} {r : Option Nat} (h : w.grownBy w1 r) {b j : Nat} (hb : w.heap.size ≤ b) (u : Value) : w.grownBy (w1.setCell ⟨b, j, none⟩ u) r :=
  ⟨h.os, h.tape, h.output, by have := h.size; simpa [World.setCell] using this, fun i hi hne => (Below.heap_setCell w1 ⟨b, j, none⟩ u i (by show i ≠ b; omega)).trans (h.block i hi hne)⟩
theorem astop_ok (gs gp gf : Nat) (v : Value) (xs : List ByteArray) (gen used top : Int) (down : Bool) (p : ByteArray) (fk fK : Int) (w : World)
    (hB : w.heap[gs]? = some (.cells (SC v gen used top down) 26 (0, 0))) (hP : w.heap[gp]? = some (.cells #[.string p] 9 (0, 0))) (hF : w.heap[gf]? = some (.cells #[.int .i64 fk, .int .i64 fK] 45 (0, 0)))
    (hS : SlAt w v 1 xs.length (strs xs)) (hne : ∀ b, v.ownBlock = some b → b ≠ gs) (hl : xs.length ≤ 1000) (g0 : 0 ≤ gen) (g1 : gen ≤ 1000) (u0 : 0 ≤ used) (u1 : used ≤ 900) (h1 : fk ≠ 1) (h2 : fk ≠ 2) :
    Calls Try.prog 48 #[.func (.func 49) #[] #[.pointer (some ⟨gs, 0, none⟩), .pointer (some ⟨gp, 0, none⟩), .pointer (some ⟨gf, 0, none⟩)]] w fun e w' =>
      ∃ v', e = .returned (.int .i64 0) ∧ w'.heap[gs]? = some (.cells (SC v' gen (used + 1) top down) 26 (0, 0)) ∧ SlAt w' v' 1 (tearL xs (placeD xs gen used) (sealS gen (used + 1) p) 128).length (strs (tearL xs (placeD xs gen used) (sealS gen (used + 1) p) 128)) ∧ FreshV w.heap.size v' ∧ w.grownBy w' (some gs) := by
  have ha := app1_ok gs gp gf v xs gen used top down p fk fK (w.alloc (.cells #[.int .i64 0] 29)) (blk_alloc _ hB) (blk_alloc _ hP) (blk_alloc _ hF) (hS.alloc _) hne hl g0 g1 u0 u1 h1 h2
  have he : Enters Try.prog 49 := enters_of Try.func49 (by kernel_rfl) rfl
  have hg : gs < w.heap.size := blk_lt hB
  have hsz : (w.alloc (.cells #[.int .i64 0] 29)).heap.size = w.heap.size + 1 := size_alloc _ _
  obtain ⟨ys, hys⟩ : ∃ ys, ys = tearL xs (placeD xs gen used) (sealS gen (used + 1) p) 128 := ⟨_, rfl⟩
  rw [← hys] at ha ⊢
  refine (stop_ret _ _ w (fun w1 => ∃ v', w1.heap[gs]? = some (.cells (SC v' gen (used + 1) top down) 26 (0, 0)) ∧ SlAt w1 v' 1 ys.length (strs ys) ∧ FreshV (w.heap.size + 1) v' ∧ (w.alloc (.cells #[.int .i64 0] 29)).grownBy w1 (some gs)) he (ha.mono ?_)).mono ?_
  · rintro e w' ⟨v', rfl, k1, k2, k3, k4⟩
    exact ⟨rfl, (k4.block w.heap.size (by omega) (fun e => by have := Option.some.inj e; omega)).trans (blk_new w _), v', k1, k2, k3.mono (by omega), k4⟩
  · rintro e w' ⟨w1, ⟨v', k1, k2, k3, k4⟩, rfl, rfl⟩
    exact ⟨v', rfl, blk_set_far k1 (by show gs ≠ w.heap.size; omega) _, k2.store (p := ⟨w.heap.size, 0, none⟩) (fun b hb => by have := k3 b hb; show b ≠ w.heap.size; omega) _, k3.mono (by omega), gr_setnew ((gr_bel (row := some gs) (bal (Below.refl w.heap.size w) _)).trans k4) (Nat.le_refl _) _⟩
theorem astop_crash (gs gp gf : Nat) (v : Value) (xs : List ByteArray) (gen used top : Int) (down : Bool) (p : ByteArray) (fK : Int) (w : World)
    (hB : w.heap[gs]? = some (.cells (SC v gen used top down) 26 (0, 0))) (hP : w.heap[gp]? = some (.cells #[.string p] 9 (0, 0))) (hF : w.heap[gf]? = some (.cells #[.int .i64 2, .int .i64 fK] 45 (0, 0)))
    (hS : SlAt w v 1 xs.length (strs xs)) (hne : ∀ b, v.ownBlock = some b → b ≠ gs) (hl : xs.length ≤ 1000) (g0 : 0 ≤ gen) (g1 : gen ≤ 1000) (u0 : 0 ≤ used) (u1 : used ≤ 900) :
    Calls Try.prog 48 #[.func (.func 49) #[] #[.pointer (some ⟨gs, 0, none⟩), .pointer (some ⟨gp, 0, none⟩), .pointer (some ⟨gf, 0, none⟩)]] w fun e w' =>
      ∃ v', e = .returned (.int .i64 9) ∧ w'.heap[gs]? = some (.cells (SC v' gen used top true) 26 (0, 0)) ∧ SlAt w' v' 1 (tearL xs (placeD xs gen used) (sealS gen (used + 1) p) fK).length (strs (tearL xs (placeD xs gen used) (sealS gen (used + 1) p) fK)) ∧ FreshV w.heap.size v' ∧ w.grownBy w' (some gs) := by
  have ha := app1_crash gs gp gf v xs gen used top down p fK (w.alloc (.cells #[.int .i64 0] 29)) (blk_alloc _ hB) (blk_alloc _ hP) (blk_alloc _ hF) (hS.alloc _) hne hl g0 g1 u0 u1
  have he : Enters Try.prog 49 := enters_of Try.func49 (by kernel_rfl) rfl
  have hg : gs < w.heap.size := blk_lt hB
  have hsz : (w.alloc (.cells #[.int .i64 0] 29)).heap.size = w.heap.size + 1 := size_alloc _ _
  obtain ⟨ys, hys⟩ : ∃ ys, ys = tearL xs (placeD xs gen used) (sealS gen (used + 1) p) fK := ⟨_, rfl⟩
  rw [← hys] at ha ⊢
  refine (stop_pan _ _ 9 w (fun w1 => ∃ v', w1.heap[gs]? = some (.cells (SC v' gen used top true) 26 (0, 0)) ∧ SlAt w1 v' 1 ys.length (strs ys) ∧ FreshV (w.heap.size + 1) v' ∧ (w.alloc (.cells #[.int .i64 0] 29)).grownBy w1 (some gs)) he (ha.mono ?_)).mono ?_
  · rintro e w' ⟨v', rfl, k1, k2, k3, k4⟩
    exact ⟨rfl, (k4.block w.heap.size (by omega) (fun e => by have := Option.some.inj e; omega)).trans (blk_new w _), v', k1, k2, k3.mono (by omega), k4⟩
  · rintro e w' ⟨w1, ⟨v', k1, k2, k3, k4⟩, rfl, rfl⟩
    exact ⟨v', rfl, blk_set_far (blk_alloc _ k1) (by show gs ≠ w.heap.size; omega) _, (k2.alloc _).store (p := ⟨w.heap.size, 0, none⟩) (fun b hb => by have := k3 b hb; show b ≠ w.heap.size; omega) _, k3.mono (by omega), gr_setnew (((gr_bel (row := some gs) (bal (Below.refl w.heap.size w) _)).trans k4).trans (gr_bel (bal (Below.refl _ _) _))) (Nat.le_refl _) _⟩
theorem astop_fail (gs gp gf : Nat) (v : Value) (xs : List ByteArray) (gen used top : Int) (down : Bool) (p : ByteArray) (fK : Int) (w : World)
    (hB : w.heap[gs]? = some (.cells (SC v gen used top down) 26 (0, 0))) (hP : w.heap[gp]? = some (.cells #[.string p] 9 (0, 0))) (hF : w.heap[gf]? = some (.cells #[.int .i64 1, .int .i64 fK] 45 (0, 0)))
    (hS : SlAt w v 1 xs.length (strs xs)) (hne : ∀ b, v.ownBlock = some b → b ≠ gs) (hl : xs.length ≤ 1000) (g0 : 0 ≤ gen) (g1 : gen ≤ 1000) (u0 : 0 ≤ used) (u1 : used ≤ 900) :
    Calls Try.prog 48 #[.func (.func 49) #[] #[.pointer (some ⟨gs, 0, none⟩), .pointer (some ⟨gp, 0, none⟩), .pointer (some ⟨gf, 0, none⟩)]] w fun e w' =>
      e = .returned (.int .i64 8) ∧ Below w.heap.size w w' := by
  have ha := app1_fail gs gp gf v xs gen used top down p fK (w.alloc (.cells #[.int .i64 0] 29)) (blk_alloc _ hB) (blk_alloc _ hP) (blk_alloc _ hF) (hS.alloc _) hne hl g0 g1 u0 u1
  have he : Enters Try.prog 49 := enters_of Try.func49 (by kernel_rfl) rfl
  have hg : gs < w.heap.size := blk_lt hB
  have hsz : (w.alloc (.cells #[.int .i64 0] 29)).heap.size = w.heap.size + 1 := size_alloc _ _
  refine (stop_pan _ _ 8 w (fun w1 => Below (w.alloc (.cells #[.int .i64 0] 29)).heap.size (w.alloc (.cells #[.int .i64 0] 29)) w1) he (ha.mono ?_)).mono ?_
  · rintro e w' ⟨rfl, k1⟩
    exact ⟨rfl, blk_call k1 (blk_new w _), k1⟩
  · rintro e w' ⟨w1, k1, rfl, rfl⟩
    exact ⟨rfl, bset (bal (bel (bal (Below.refl w.heap.size w) _) k1) _) (Nat.le_refl _) _⟩
theorem slat_blk {W : World} {b n sz : Nat} {T : TypeId} {cs : List Value} (h : W.heap[b]? = some (.cells cs.toArray T (0, 0))) (hl : cs.length = n * sz) (hn : n ≤ maxLen) : SlAt W (.slice (some ⟨b, 0, none⟩) n n) sz n cs :=
  ⟨hl, some ⟨b, 0, none⟩, n, rfl, Nat.le_refl _, hn, .inr ⟨b, 0, rfl, blk_lt h, fun j u hu => by rw [Nat.zero_add]; exact blk_cell h (by simpa using hu)⟩⟩
theorem al5 (w : World) (o1 o2 o3 o4 o5 o6 : Obj) : ((((((w.alloc o1).alloc o2).alloc o3).alloc o4).alloc o5).alloc o6).heap[w.heap.size + 1 + 1 + 1 + 1]? = some o5 := by
  have := blk_alloc o6 (blk_new ((((w.alloc o1).alloc o2).alloc o3).alloc o4) o5)
  rwa [size_alloc, size_alloc, size_alloc, size_alloc] at this
theorem al6 (w : World) (o1 o2 o3 o4 o5 o6 : Obj) : ((((((w.alloc o1).alloc o2).alloc o3).alloc o4).alloc o5).alloc o6).heap[w.heap.size + 1 + 1 + 1 + 1 + 1]? = some o6 := by
  have := blk_new (((((w.alloc o1).alloc o2).alloc o3).alloc o4).alloc o5) o6
  rwa [size_alloc, size_alloc, size_alloc, size_alloc, size_alloc] at this
theorem al4 (w : World) (o1 o2 o3 o4 o5 o6 : Obj) : ((((((w.alloc o1).alloc o2).alloc o3).alloc o4).alloc o5).alloc o6).heap[w.heap.size + 1 + 1 + 1]? = some o4 := by
  have := blk_alloc o6 (blk_alloc o5 (blk_new (((w.alloc o1).alloc o2).alloc o3) o4))
  rwa [size_alloc, size_alloc, size_alloc] at this
theorem al3 (w : World) (o1 o2 o3 o4 o5 o6 : Obj) : ((((((w.alloc o1).alloc o2).alloc o3).alloc o4).alloc o5).alloc o6).heap[w.heap.size + 1 + 1]? = some o3 := by
  have := blk_alloc o6 (blk_alloc o5 (blk_alloc o4 (blk_new ((w.alloc o1).alloc o2) o3)))
  rwa [size_alloc, size_alloc] at this
theorem al2 (w : World) (o1 o2 o3 o4 o5 o6 : Obj) : ((((((w.alloc o1).alloc o2).alloc o3).alloc o4).alloc o5).alloc o6).heap[w.heap.size + 1]? = some o2 := by
  have := blk_alloc o6 (blk_alloc o5 (blk_alloc o4 (blk_alloc o3 (blk_new (w.alloc o1) o2))))
  rwa [size_alloc] at this
theorem al1 (w : World) (o1 o2 o3 o4 o5 o6 : Obj) : ((((((w.alloc o1).alloc o2).alloc o3).alloc o4).alloc o5).alloc o6).heap[w.heap.size]? = some o1 := blk_alloc o6 (blk_alloc o5 (blk_alloc o4 (blk_alloc o3 (blk_alloc o2 (blk_new w o1)))))
def Sto.zero : Sto := ⟨[], 0, 0, 0, false⟩
def appS (s : Sto) (p : ByteArray) (f : Flt) : Sto × Int :=
  if f.kind = 1 then (s, 8) else if f.kind = 2 then ({ s with xs := tearL s.xs (placeD s.xs s.gen s.used) (sealS s.gen (s.used + 1) p) f.k, down := true }, 9)
  else ({ s with xs := tearL s.xs (placeD s.xs s.gen s.used) (sealS s.gen (s.used + 1) p) 128, used := s.used + 1 }, 0)
def appendS (s : Sto) (p : ByteArray) (f : Flt) : Sto × Int :=
  if mayS s [p] [f] = 0 then (if s.used = areaD s.xs then (Sto.zero, 5) else appS s p f) else (Sto.zero, mayS s [p] [f])
def StoRes (s : Sto) (k : Int) (v : Value) (w : World) (e : Ending) (w' : World) : Prop :=
  ∃ v', e = .returned (.tuple #[s.val v', .int .i64 k]) ∧ (v' = v ∨ FreshV w.heap.size v') ∧ SlAt w' v' 1 s.xs.length (strs s.xs) ∧ Below w.heap.size w w'
theorem append_bad (s : Sto) (v : Value) (p : ByteArray) (f : Flt) (k : Int) (w : World) (hS : SlAt w v 1 s.xs.length (strs s.xs)) (hm : mayS s [p] [f] = k) (hk : k ≠ 0) :
    Calls Try.prog 21 #[s.val v, .string p, fltV f] w (StoRes Sto.zero k v w) := by
  have HM := Lib.hid (fun W v1 v2 (h : SlAt W v 1 s.xs.length (strs s.xs)) (h1 : SlAt W v1 1 1 (strs [p])) (h2 : SlAt W v2 2 1 (fltsC [f])) => by have := storeMay_any s v v1 v2 [p] [f] W h h1 h2; rw [hm] at this; exact this)
  have HS := Lib.hid hS
  obtain ⟨xs, gen, used, top, down⟩ := s
  obtain ⟨fk, fK⟩ := f
  obtain ⟨a, c, rfl, _, _⟩ := hS.form
  have hne : (k != 0) = true := by simpa using hk
  clear hS hm hk
  unfold Sto.val fltV at *
  go_enter Try.func21, Try.ntmps21
  go_wp2_with (first
    | (go_at_call 47; refine (HM.out _ _ _ (HS.out.stay (bal (bal (bal (bal (bal (bal (Below.refl _ _) _) _) _) _) _) _)) (slat_blk (cs := strs [p]) (T := 9) (al5 w _ _ _ _ _ _) rfl (by decide)) (slat_blk (cs := fltsC [⟨fk, fK⟩]) (T := 45) (al6 w _ _ _ _ _ _) rfl (by decide))).mono ?_; rintro e w1 ⟨rfl, hb1⟩; have K4 := Lib.hid (blk_call hb1 (al4 w _ _ _ _ _ _)); have x0 := blk_cell K4.out (j := 0) rfl; have x1 := blk_cell K4.out (j := 1) rfl; have x2 := blk_cell K4.out (j := 2) rfl; have x3 := blk_cell K4.out (j := 3) rfl; have x4 := blk_cell K4.out (j := 4) rfl; have f0 := blk_free K4.out 0; have f1 := blk_free K4.out 1; have f2 := blk_free K4.out 2; have f3 := blk_free K4.out 3; have f4 := blk_free K4.out 4))
  have hw1 := bel (bal (bal (bal (bal (bal (bal (Below.refl w.heap.size w) _) _) _) _) _) _) hb1
  refine bodyPost_ret (v := .tuple #[Sto.zero.val (.slice none 0 0), .int .i64 k]) ?_ rfl ?_
  · simp [results, Try.results21, go_sem, Sto.val, Sto.zero, x0, x1, x2, x3, x4]
  · refine ⟨.slice none 0 0, rfl, .inr (FreshV.nil _ _ _), SlAt.nil _ _, ?_⟩
    exact bset (bset (bset (bset (bset hw1 (show w.heap.size ≤ w.heap.size + 1 + 1 + 1 by omega) _) (show w.heap.size ≤ w.heap.size + 1 + 1 + 1 by omega) _) (show w.heap.size ≤ w.heap.size + 1 + 1 + 1 by omega) _) (show w.heap.size ≤ w.heap.size + 1 + 1 + 1 by omega) _) (show w.heap.size ≤ w.heap.size + 1 + 1 + 1 by omega) _
theorem append_full (s : Sto) (v : Value) (p : ByteArray) (f : Flt) (w : World) (hS : SlAt w v 1 s.xs.length (strs s.xs)) (hm : mayS s [p] [f] = 0) (hu : s.used = areaD s.xs) :
    Calls Try.prog 21 #[s.val v, .string p, fltV f] w (StoRes Sto.zero 5 v w) := by
  have HM := Lib.hid (fun W v1 v2 (h : SlAt W v 1 s.xs.length (strs s.xs)) (h1 : SlAt W v1 1 1 (strs [p])) (h2 : SlAt W v2 2 1 (fltsC [f])) => by have := storeMay_any s v v1 v2 [p] [f] W h h1 h2; rw [hm] at this; exact this)
  have HS := Lib.hid hS
  obtain ⟨xs, gen, used, top, down⟩ := s
  obtain ⟨fk, fK⟩ := f
  obtain ⟨a, c, rfl, _, _⟩ := hS.form
  simp only at hu HS HM
  have HA := Lib.hid (fun W (h : SlAt W (Value.slice a xs.length c) 1 xs.length (strs xs)) => area_any _ xs W h)
  rw [← hu] at HA
  clear hS hm hu
  unfold Sto.val fltV at *
  go_enter Try.func21, Try.ntmps21
  go_wp2_with (first
    | (go_at_call 47; refine (HM.out _ _ _ (HS.out.stay (bal (bal (bal (bal (bal (bal (Below.refl _ _) _) _) _) _) _) _)) (slat_blk (cs := strs [p]) (T := 9) (al5 w _ _ _ _ _ _) rfl (by decide)) (slat_blk (cs := fltsC [⟨fk, fK⟩]) (T := 45) (al6 w _ _ _ _ _ _) rfl (by decide))).mono ?_; rintro e w1 ⟨rfl, hb1⟩; have K4 := Lib.hid (blk_call hb1 (al4 w _ _ _ _ _ _)); have K1 := Lib.hid (blk_call hb1 (al1 w _ _ _ _ _ _)); have y0 : w1.drew.cell? ⟨w.heap.size, 0, none⟩ = some (Value.slice a xs.length c) := blk_cell (show w1.drew.heap[w.heap.size]? = _ from K1.out) (j := 0) rfl; have y2 : w1.drew.cell? ⟨w.heap.size, 2, none⟩ = some (.int .i64 used) := blk_cell (show w1.drew.heap[w.heap.size]? = _ from K1.out) (j := 2) rfl))
  have hw1 := bel (bal (bal (bal (bal (bal (bal (Below.refl w.heap.size w) _) _) _) _) _) _) hb1
  have hd1 : SlAt w1.drew (Value.slice a xs.length c) 1 xs.length (strs xs) := HS.out.stay (bdn hw1 1)
  refine start_ (n := 6) (S := fun w' => w'.cell? ⟨w.heap.size, 0, none⟩ = some (Value.slice a xs.length c) ∧ w'.cell? ⟨w.heap.size, 2, none⟩ = some (.int .i64 used)) (ds := []) #[false, false, false, false, false, false] (by kernel_rfl) rfl rfl ⟨y0, y2⟩ (fun hHeld => ?_)
  refine pure_ (i := 0) (N := some 20) (v := ?_) (a' := ?_) #[true, false, false, false, false, false] rfl rfl (by kernel_rfl) (fun _ _ _ h => h) (Or.inl ⟨by rfl, ?_⟩) ?_ ?_
  rotate_left
  · intro w'
    go_simp
    with_reducible rfl
  rotate_left
  · simp only [Act.put, List.setIfInBounds_toArray, List.set_cons_zero, List.set_cons_succ, i64_w, i32_w]
    rfl
  refine take_ (i := 1) (N := some 21) (v := ?_) (a' := ?_) #[true, true, false, false, false, false] rfl rfl (by kernel_rfl) (fun _ _ _ h => h) (Or.inl ⟨by rfl, ?_⟩) hHeld ?_ ?_
  rotate_left
  · rintro w' ⟨s0, s1⟩
    go_simp
    with_reducible rfl
  rotate_left
  · simp only [Act.put, List.setIfInBounds_toArray, List.set_cons_zero, List.set_cons_succ, i64_w, i32_w]
    rfl
  refine pure_ (i := 2) (N := some 22) (v := ?_) (a' := ?_) #[true, true, true, false, false, false] rfl rfl (by kernel_rfl) (fun _ _ _ h => h) (Or.inl ⟨by rfl, ?_⟩) ?_ ?_
  rotate_left
  · intro w'
    go_simp
    with_reducible rfl
  rotate_left
  · simp only [Act.put, List.setIfInBounds_toArray, List.set_cons_zero, List.set_cons_succ, i64_w, i32_w]
    rfl
  refine take_ (i := 3) (N := some 23) (v := ?_) (a' := ?_) #[true, true, true, true, false, false] rfl rfl (by kernel_rfl) (fun _ _ _ h => h) (Or.inl ⟨by rfl, ?_⟩) hHeld ?_ ?_
  rotate_left
  · rintro w' ⟨s0, s1⟩
    go_simp
    with_reducible rfl
  rotate_left
  · simp only [Act.put, List.setIfInBounds_toArray, List.set_cons_zero, List.set_cons_succ, i64_w, i32_w]
    rfl
  refine one_ (i := 4) (N := some 24) #[true, true, true, true, true, false] rfl rfl (by kernel_rfl) (by decide) (fun K hK => ?_)
  refine goes_ Try.func37 (by kernel_rfl) rfl #[.agg #[.slice a xs.length c]] (by rfl) rfl rfl (by (try simp only [List.map_toArray, List.map_cons, List.map_nil]); first | done | rfl) ?_
  refine (HA.out _ hd1).mono ?_
  rintro e w2 ⟨rfl, hb2⟩
  refine ⟨_, rfl, ?_⟩
  have J1 := Lib.hid (blk_call hb2 K1.out)
  have J4 := Lib.hid (blk_call hb2 K4.out)
  refine hK.out _ _ ⟨blk_cell J1.out (j := 0) rfl, blk_cell J1.out (j := 2) rfl⟩ (fun hHeld => ?_)
  clear hK K
  refine norm_ (a' := ?_) ?_ ?_
  rotate_left
  · show Act.put _ (some 24) _ = _
    simp only [Act.put, List.setIfInBounds_toArray, List.set_cons_zero, List.set_cons_succ, i64_w, i32_w]
    rfl
  refine pure_ (i := 5) (N := some 25) (v := ?_) (a' := ?_) #[true, true, true, true, true, true] rfl rfl (by kernel_rfl) (fun _ _ _ h => h) (Or.inl ⟨by rfl, ?_⟩) ?_ ?_
  rotate_left
  · intro w'
    go_simp
    with_reducible rfl
  rotate_left
  · simp only [Act.put, List.setIfInBounds_toArray, List.set_cons_zero, List.set_cons_succ, i64_w, i32_w]
    rfl
  refine done_ (by kernel_rfl) ?_
  have x0 := blk_cell J4.out (j := 0) rfl
  have x1 := blk_cell J4.out (j := 1) rfl
  have x2 := blk_cell J4.out (j := 2) rfl
  have x3 := blk_cell J4.out (j := 3) rfl
  have x4 := blk_cell J4.out (j := 4) rfl
  have f0 := blk_free J4.out 0
  have f1 := blk_free J4.out 1
  have f2 := blk_free J4.out 2
  have f3 := blk_free J4.out 3
  have f4 := blk_free J4.out 4
  go_wp2
  have hw2 := bel (bdn hw1 1) hb2
  refine bodyPost_ret (v := .tuple #[Sto.zero.val (.slice none 0 0), .int .i64 5]) ?_ rfl ?_
  · simp [results, Try.results21, go_sem, Sto.val, Sto.zero, x0, x1, x2, x3, x4]
  · refine ⟨.slice none 0 0, rfl, .inr (FreshV.nil _ _ _), SlAt.nil _ _, ?_⟩
    exact bset (bset (bset (bset (bset hw2 (show w.heap.size ≤ w.heap.size + 1 + 1 + 1 by omega) _) (show w.heap.size ≤ w.heap.size + 1 + 1 + 1 by omega) _) (show w.heap.size ≤ w.heap.size + 1 + 1 + 1 by omega) _) (show w.heap.size ≤ w.heap.size + 1 + 1 + 1 by omega) _) (show w.heap.size ≤ w.heap.size + 1 + 1 + 1 by omega) _
set_option maxHeartbeats 8000000 in
theorem append_go (xs ys : List ByteArray) (gen used top used' k : Int) (down down' : Bool) (v : Value) (p : ByteArray) (fk fK : Int) (w : World) (hS : SlAt w v 1 xs.length (strs xs)) (hm : mayS ⟨xs, gen, used, top, down⟩ [p] [⟨fk, fK⟩] = 0) (hu : used ≠ areaD xs)
    (hst : ∀ W : World, w.heap.size ≤ W.heap.size → W.heap[w.heap.size]? = some (.cells (SC v gen used top down) 26 (0, 0)) → W.heap[w.heap.size + 1]? = some (.cells #[.string p] 9 (0, 0)) → W.heap[w.heap.size + 1 + 1]? = some (.cells #[.int .i64 fk, .int .i64 fK] 45 (0, 0)) → SlAt W v 1 xs.length (strs xs) →
      Calls Try.prog 48 #[.func (.func 49) #[] #[.pointer (some ⟨w.heap.size, 0, none⟩), .pointer (some ⟨w.heap.size + 1, 0, none⟩), .pointer (some ⟨w.heap.size + 1 + 1, 0, none⟩)]] W fun e w' =>
        ∃ v', e = .returned (.int .i64 k) ∧ w'.heap[w.heap.size]? = some (.cells (SC v' gen used' top down') 26 (0, 0)) ∧ SlAt w' v' 1 ys.length (strs ys) ∧ ((v' = v ∧ ys = xs) ∨ FreshV W.heap.size v') ∧ W.grownBy w' (some w.heap.size)) :
    Calls Try.prog 21 #[.agg (SC v gen used top down), .string p, .agg #[.int .i64 fk, .int .i64 fK]] w (StoRes ⟨ys, gen, used', top, down'⟩ k v w) := by
  have HM := Lib.hid (fun W v1 v2 (h : SlAt W v 1 xs.length (strs xs)) (h1 : SlAt W v1 1 1 (strs [p])) (h2 : SlAt W v2 2 1 (fltsC [⟨fk, fK⟩])) => by have := storeMay_any ⟨xs, gen, used, top, down⟩ v v1 v2 [p] [⟨fk, fK⟩] W h h1 h2; rw [hm] at this; exact this)
  have HS := Lib.hid hS
  have HT := Lib.hid hst
  obtain ⟨a, c, rfl, _, _⟩ := hS.form
  have HA := Lib.hid (fun W (h : SlAt W (Value.slice a xs.length c) 1 xs.length (strs xs)) => area_any _ xs W h)
  obtain ⟨A, hA⟩ : ∃ A, A = areaD xs := ⟨_, rfl⟩
  rw [← hA] at HA hu
  have hne : (used == A) = false := by simpa using hu
  have hmf : ∀ (fn : Fn) (first cap : Array Value) (w : World), (Instr.makeFunc fn first cap).run Try.prog w = .ok (.func fn first cap) w := fun _ _ _ _ => rfl
  clear hS hm hu hA hst
  unfold Sto.val at *
  go_enter Try.func21, Try.ntmps21
  go_wp2_with (first
    | (go_at_call 47; refine (HM.out _ _ _ (HS.out.stay (bal (bal (bal (bal (bal (bal (Below.refl _ _) _) _) _) _) _) _)) (slat_blk (cs := strs [p]) (T := 9) (al5 w _ _ _ _ _ _) rfl (by decide)) (slat_blk (cs := fltsC [⟨fk, fK⟩]) (T := 45) (al6 w _ _ _ _ _ _) rfl (by decide))).mono ?_; rintro e w1 ⟨rfl, hb1⟩; have K4 := Lib.hid (blk_call hb1 (al4 w _ _ _ _ _ _)); have K1 := Lib.hid (blk_call hb1 (al1 w _ _ _ _ _ _)); have K2 := Lib.hid (blk_call hb1 (al2 w _ _ _ _ _ _)); have K3 := Lib.hid (blk_call hb1 (al3 w _ _ _ _ _ _)); have y0 : w1.drew.cell? ⟨w.heap.size, 0, none⟩ = some (Value.slice a xs.length c) := blk_cell (show w1.drew.heap[w.heap.size]? = _ from K1.out) (j := 0) rfl; have y2 : w1.drew.cell? ⟨w.heap.size, 2, none⟩ = some (.int .i64 used) := blk_cell (show w1.drew.heap[w.heap.size]? = _ from K1.out) (j := 2) rfl))
  have hw1 := bel (bal (bal (bal (bal (bal (bal (Below.refl w.heap.size w) _) _) _) _) _) _) hb1
  have hd1 : SlAt w1.drew (Value.slice a xs.length c) 1 xs.length (strs xs) := HS.out.stay (bdn hw1 1)
  refine start_ (n := 6) (S := fun w' => w'.cell? ⟨w.heap.size, 0, none⟩ = some (Value.slice a xs.length c) ∧ w'.cell? ⟨w.heap.size, 2, none⟩ = some (.int .i64 used)) (ds := []) #[false, false, false, false, false, false] (by kernel_rfl) rfl rfl ⟨y0, y2⟩ (fun hHeld => ?_)
  refine pure_ (i := 0) (N := some 20) (v := ?_) (a' := ?_) #[true, false, false, false, false, false] rfl rfl (by kernel_rfl) (fun _ _ _ h => h) (Or.inl ⟨by rfl, ?_⟩) ?_ ?_
  rotate_left
  · intro w'
    go_simp
    with_reducible rfl
  rotate_left
  · simp only [Act.put, List.setIfInBounds_toArray, List.set_cons_zero, List.set_cons_succ, i64_w, i32_w]
    rfl
  refine take_ (i := 1) (N := some 21) (v := ?_) (a' := ?_) #[true, true, false, false, false, false] rfl rfl (by kernel_rfl) (fun _ _ _ h => h) (Or.inl ⟨by rfl, ?_⟩) hHeld ?_ ?_
  rotate_left
  · rintro w' ⟨s0, s1⟩
    go_simp
    with_reducible rfl
  rotate_left
  · simp only [Act.put, List.setIfInBounds_toArray, List.set_cons_zero, List.set_cons_succ, i64_w, i32_w]
    rfl
  refine pure_ (i := 2) (N := some 22) (v := ?_) (a' := ?_) #[true, true, true, false, false, false] rfl rfl (by kernel_rfl) (fun _ _ _ h => h) (Or.inl ⟨by rfl, ?_⟩) ?_ ?_
  rotate_left
  · intro w'
    go_simp
    with_reducible rfl
  rotate_left
  · simp only [Act.put, List.setIfInBounds_toArray, List.set_cons_zero, List.set_cons_succ, i64_w, i32_w]
    rfl
  refine take_ (i := 3) (N := some 23) (v := ?_) (a' := ?_) #[true, true, true, true, false, false] rfl rfl (by kernel_rfl) (fun _ _ _ h => h) (Or.inl ⟨by rfl, ?_⟩) hHeld ?_ ?_
  rotate_left
  · rintro w' ⟨s0, s1⟩
    go_simp
    with_reducible rfl
  rotate_left
  · simp only [Act.put, List.setIfInBounds_toArray, List.set_cons_zero, List.set_cons_succ, i64_w, i32_w]
    rfl
  refine one_ (i := 4) (N := some 24) #[true, true, true, true, true, false] rfl rfl (by kernel_rfl) (by decide) (fun K hK => ?_)
  refine goes_ Try.func37 (by kernel_rfl) rfl #[.agg #[.slice a xs.length c]] (by rfl) rfl rfl (by (try simp only [List.map_toArray, List.map_cons, List.map_nil]); first | done | rfl) ?_
  refine (HA.out _ hd1).mono ?_
  rintro e w2 ⟨rfl, hb2⟩
  refine ⟨_, rfl, ?_⟩
  have J1 := Lib.hid (blk_call hb2 K1.out)
  have J4 := Lib.hid (blk_call hb2 K4.out)
  refine hK.out _ _ ⟨blk_cell J1.out (j := 0) rfl, blk_cell J1.out (j := 2) rfl⟩ (fun hHeld => ?_)
  clear hK K
  refine norm_ (a' := ?_) ?_ ?_
  rotate_left
  · show Act.put _ (some 24) _ = _
    simp only [Act.put, List.setIfInBounds_toArray, List.set_cons_zero, List.set_cons_succ, i64_w, i32_w]
    rfl
  refine pure_ (i := 5) (N := some 25) (v := ?_) (a' := ?_) #[true, true, true, true, true, true] rfl rfl (by kernel_rfl) (fun _ _ _ h => h) (Or.inl ⟨by rfl, ?_⟩) ?_ ?_
  rotate_left
  · intro w'
    go_simp
    with_reducible rfl
  rotate_left
  · simp only [Act.put, List.setIfInBounds_toArray, List.set_cons_zero, List.set_cons_succ, i64_w, i32_w]
    rfl
  refine done_ (by kernel_rfl) ?_
  have J2 := Lib.hid (blk_call hb2 K2.out)
  have J3 := Lib.hid (blk_call hb2 K3.out)
  have hw2 := bel (bdn hw1 1) hb2
  go_wp2_with (go_at_call 48; refine (HT.out _ hw2.size J1.out J2.out J3.out (HS.out.stay hw2)).mono ?_; rintro e w3 ⟨v3, rfl, hB3, hS3, hF3, hG3⟩; obtain ⟨a3, c3, rfl, _, _⟩ := hS3.form; have X4 := Lib.hid ((hG3.block (w.heap.size + 1 + 1 + 1) (blk_lt J4.out) (fun e => by have := Option.some.inj e; omega)).trans J4.out); have B3 := Lib.hid hB3; have q0 : w3.cell? ⟨w.heap.size, 0, none⟩ = some (Value.slice a3 ys.length c3) := blk_cell B3.out (j := 0) rfl; have q1 : w3.cell? ⟨w.heap.size, 1, none⟩ = some (Value.int .i64 gen) := blk_cell B3.out (j := 1) rfl; have q2 : w3.cell? ⟨w.heap.size, 2, none⟩ = some (Value.int .i64 used') := blk_cell B3.out (j := 2) rfl; have q3 : w3.cell? ⟨w.heap.size, 3, none⟩ = some (Value.int .i64 top) := blk_cell B3.out (j := 3) rfl; have q4 : w3.cell? ⟨w.heap.size, 4, none⟩ = some (Value.bool down') := blk_cell B3.out (j := 4) rfl; have x0 := blk_cell X4.out (j := 0) rfl; have x1 := blk_cell X4.out (j := 1) rfl; have x2 := blk_cell X4.out (j := 2) rfl; have x3 := blk_cell X4.out (j := 3) rfl; have x4 := blk_cell X4.out (j := 4) rfl; have f0 := blk_free X4.out 0; have f1 := blk_free X4.out 1; have f2 := blk_free X4.out 2; have f3 := blk_free X4.out 3; have f4 := blk_free X4.out 4; clear hB3)
  refine bodyPost_ret (v := .tuple #[.agg (SC (.slice a3 ys.length c3) gen used' top down'), .int .i64 k]) ?_ rfl ?_
  · simp [results, Try.results21, go_sem, x0, x1, x2, x3, x4]
  · have hn := blk_lt J4.out
    have hw3 : Below w.heap.size w w3 := ⟨hG3.os.trans hw2.os, hG3.tape.trans hw2.tape, hG3.output.trans hw2.output, Nat.le_trans hw2.size hG3.size, fun i hi => (hG3.block i (Nat.lt_of_lt_of_le hi hw2.size) (fun e => by have := Option.some.inj e; omega)).trans (hw2.block i hi)⟩
    have hb4 := bset (bset (bset (bset (bset hw3 (show w.heap.size ≤ w.heap.size + 1 + 1 + 1 by omega) (.slice a3 ys.length c3) (p := ⟨w.heap.size + 1 + 1 + 1, 0, none⟩)) (show w.heap.size ≤ w.heap.size + 1 + 1 + 1 by omega) (.int .i64 gen) (p := ⟨w.heap.size + 1 + 1 + 1, 1, none⟩)) (show w.heap.size ≤ w.heap.size + 1 + 1 + 1 by omega) (.int .i64 used') (p := ⟨w.heap.size + 1 + 1 + 1, 2, none⟩)) (show w.heap.size ≤ w.heap.size + 1 + 1 + 1 by omega) (.int .i64 top) (p := ⟨w.heap.size + 1 + 1 + 1, 3, none⟩)) (show w.heap.size ≤ w.heap.size + 1 + 1 + 1 by omega) (.bool down') (p := ⟨w.heap.size + 1 + 1 + 1, 4, none⟩)
    refine ⟨.slice a3 ys.length c3, rfl, hF3.elim (fun h => .inl h.1) (fun h => .inr (h.mono hw2.size)), ?_, hb4⟩
    rcases hF3 with ⟨h1, rfl⟩ | h1
    · injection h1 with e1 _ e3
      subst e1 e3
      exact HS.out.stay hb4
    · have hd : ∀ b, (Value.slice a3 ys.length c3).ownBlock = some b → b ≠ w.heap.size + 1 + 1 + 1 := fun b hb => by have := h1 b hb; omega
      exact ((((hS3.store (p := ⟨w.heap.size + 1 + 1 + 1, 0, none⟩) hd _).store (p := ⟨w.heap.size + 1 + 1 + 1, 1, none⟩) hd _).store (p := ⟨w.heap.size + 1 + 1 + 1, 2, none⟩) hd _).store (p := ⟨w.heap.size + 1 + 1 + 1, 3, none⟩) hd _).store (p := ⟨w.heap.size + 1 + 1 + 1, 4, none⟩) hd _
end Go.Proofs.Ytopaddpclipnjaa
namespace Go.Proofs.Ytopaddpclipnjaa
open Go.RowKit
theorem mayS_ok {s : Sto} {l : List ByteArray} {fs : List Flt} (h : mayS s l fs = 0) : s.okB = true ∧ fs.all fltB = true ∧ (l.all fun p => decide (p.size ≤ 96)) = true ∧ s.down = false := by
  unfold mayS at h
  split at h
  · omega
  · rename_i h1
    split at h
    · omega
    · rename_i h2
      split at h
      · omega
      · rename_i h3
        simp only [Bool.or_eq_true, not_or, Bool.not_eq_true', Bool.not_eq_true, Bool.not_eq_false, List.any_eq_false] at h1 h2 h3
        refine ⟨h1.1, ?_, ?_, h3⟩
        · rw [List.all_eq_true]
          intro x hx
          have := h1.2 x hx
          simpa using this
        · rw [List.all_eq_true]
          intro x hx
          have := h2 x hx
          simp at this ⊢
          exact this
theorem okB_nums {s : Sto} (h : s.okB = true) : logB s.xs = true ∧ 1 ≤ s.gen ∧ s.gen ≤ 250 ∧ 0 ≤ s.used ∧ s.used ≤ areaD s.xs ∧ s.gen ≤ s.top ∧ s.top ≤ 250 ∧ 10 ≤ s.xs.length ∧ s.xs.length ≤ 130 := by
  unfold Sto.okB inB at h
  simp only [Bool.and_eq_true, decide_eq_true_eq] at h
  have h0 := h.1
  unfold logB at h0
  simp only [Bool.and_eq_true] at h0
  have := rightD_sizes h0.1
  exact ⟨h.1, h.2.1.1, h.2.1.2, h.2.2.1.1, h.2.2.1.2, h.2.2.2.1, h.2.2.2.2, this.1, this.2.1⟩
theorem slat_far {W : World} {v : Value} {sz n : Nat} {cs : List Value} (h : SlAt W v sz n cs) (hn : 0 < n) {b : Nat} (hb : v.ownBlock = some b) : b < W.heap.size := by
  obtain ⟨a, c, rfl, _, _⟩ := h.form
  obtain ⟨b', o, rfl, hlt, _⟩ := h.at hn
  injection hb with hb
  subst hb
  exact hlt
theorem append_any (s : Sto) (v : Value) (p : ByteArray) (f : Flt) (w : World) (hS : SlAt w v 1 s.xs.length (strs s.xs)) :
    Calls Try.prog 21 #[s.val v, .string p, fltV f] w (StoRes (appendS s p f).1 (appendS s p f).2 v w) := by
  unfold appendS
  by_cases hm : mayS s [p] [f] = 0
  · rw [if_pos hm]
    by_cases hu : s.used = areaD s.xs
    · rw [if_pos hu]
      exact append_full s v p f w hS hm hu
    · rw [if_neg hu]
      obtain ⟨hok, _, _, hdn⟩ := mayS_ok hm
      obtain ⟨_, g1, g2, u1, u2, _, _, l1, l2⟩ := okB_nums hok
      have hbl : ∀ b, v.ownBlock = some b → b ≠ w.heap.size := fun b hb => Nat.ne_of_lt (slat_far hS (by omega) hb)
      have ha : areaD s.xs ≤ 900 := by unfold areaD; omega
      obtain ⟨xs, gen, used, top, down⟩ := s
      obtain ⟨fk, fK⟩ := f
      simp only at *
      unfold appS
      by_cases h1 : fk = 1
      · subst h1
        simp only [if_true]
        refine append_go xs xs gen used top used 8 down down v p 1 fK w hS hm hu (fun W hW hB hP hF hs => ?_)
        refine (astop_fail w.heap.size (w.heap.size + 1) (w.heap.size + 1 + 1) v xs gen used top down p fK W hB hP hF hs hbl (by omega) (by omega) (by omega) u1 (by omega)).mono ?_
        rintro e w' ⟨rfl, hb⟩
        exact ⟨v, rfl, blk_call hb hB, hs.stay hb, .inl ⟨rfl, rfl⟩, gr_bel hb⟩
      · by_cases h2 : fk = 2
        · subst h2
          simp only [show ¬ (2 : Int) = 1 by decide, if_false, if_true]
          refine append_go xs _ gen used top used 9 down true v p 2 fK w hS hm hu (fun W hW hB hP hF hs => ?_)
          refine (astop_crash w.heap.size (w.heap.size + 1) (w.heap.size + 1 + 1) v xs gen used top down p fK W hB hP hF hs hbl (by omega) (by omega) (by omega) u1 (by omega)).mono ?_
          rintro e w' ⟨v', rfl, k1, k2, k3, k4⟩
          exact ⟨v', rfl, k1, k2, .inr k3, k4⟩
        · simp only [h1, h2, if_false]
          refine append_go xs _ gen used top (used + 1) 0 down down v p fk fK w hS hm hu (fun W hW hB hP hF hs => ?_)
          refine (astop_ok w.heap.size (w.heap.size + 1) (w.heap.size + 1 + 1) v xs gen used top down p fk fK W hB hP hF hs hbl (by omega) (by omega) (by omega) u1 (by omega) h1 h2).mono ?_
          rintro e w' ⟨v', rfl, k1, k2, k3, k4⟩
          exact ⟨v', rfl, k1, k2, .inr k3, k4⟩
  · rw [if_neg hm]
    exact append_bad s v p f _ w hS rfl hm
end Go.Proofs.Ytopaddpclipnjaa
namespace Go.Proofs.Ytopaddpclipnjaa
open Go.RowKit
def fz : Flt := ⟨0, 0⟩
theorem slat_tail {W : World} {v : Value} {x : Flt} {fs : List Flt} (b o c : Nat) (h : SlAt W (.slice (some ⟨b, o, none⟩) (fs.length + 1) c) 2 (fs.length + 1) (fltsC (x :: fs))) (hv : v = if c - 1 = 0 then .slice (some ⟨b, o, none⟩) fs.length (c - 1) else .slice (some ⟨b, o + 2, none⟩) fs.length (c - 1)) :
    SlAt W v 2 fs.length (fltsC fs) ∧ v.ownBlock = some b := by
  obtain ⟨_, a', c', hv', h1, h2, h3⟩ := h
  injection hv' with e1 e2 e3
  subst e3 e1
  have hl : (fltsC fs).length = fs.length * 2 := by
    unfold fltsC
    exact flat_len (en := fltC) (sz := 2) (fun _ => rfl) fs
  have hb : b < W.heap.size ∧ ∀ j u, (fltsC (x :: fs))[j]? = some u → W.cell? ⟨b, o + j, none⟩ = some u := by
    rcases h3 with h3 | ⟨b', o', ha, hlt, hc⟩
    · omega
    · injection ha with ha
      injection ha with ha1 ha2
      subst ha1 ha2
      exact ⟨hlt, hc⟩
  by_cases hc : c - 1 = 0
  · rw [if_pos hc] at hv
    subst hv
    exact ⟨⟨hl, _, _, rfl, by omega, by omega, .inl (by omega)⟩, rfl⟩
  · rw [if_neg hc] at hv
    subst hv
    refine ⟨⟨hl, _, _, rfl, by omega, by omega, .inr ⟨b, o + 2, rfl, hb.1, fun j u hu => ?_⟩⟩, rfl⟩
    have := hb.2 (2 + j) u (by
      show (fltC x ++ fltsC fs)[2 + j]? = some u
      rw [List.getElem?_append_right (by simp [fltC])]
      simpa [fltC] using hu)
    rwa [← Nat.add_assoc] at this
theorem next_any (gF : Nat) (v : Value) (fs : List Flt) (w : World) (hB : w.heap[gF]? = some (.cells #[v] 47 (0, 0))) (hS : SlAt w v 2 fs.length (fltsC fs)) (hne : 0 < fs.length → ∀ b, v.ownBlock = some b → b ≠ gF) :
    Calls Try.prog 51 #[.pointer (some ⟨gF, 0, none⟩)] w fun e w' =>
      ∃ v', e = .returned (fltV (fs.headD fz)) ∧ w'.heap[gF]? = some (.cells #[v'] 47 (0, 0)) ∧ SlAt w' v' 2 fs.tail.length (fltsC fs.tail) ∧ (∀ b, v'.ownBlock = some b → v.ownBlock = some b) ∧ w.grownBy w' (some gF) := by
  obtain ⟨a, c, rfl, hnc, hcm⟩ := hS.form
  have c0 : w.cell? ⟨gF, 0, none⟩ = some (.slice a fs.length c) := blk_cell hB (j := 0) rfl
  have z0 := blk_free hB 0
  have hg := blk_lt hB
  cases fs with
  | nil =>
    have HB := Lib.hid hB
    have HS := Lib.hid hS
    clear hB hS
    go_enter Try.func51, Try.ntmps51
    go_wp2
    refine bodyPost_ret (v := .agg #[.int .i64 0, .int .i64 0]) ?_ rfl ?_
    · simp [results, Try.results51, go_sem]
    · exact ⟨.slice a 0 c, rfl, blk_alloc _ HB.out, HS.out.alloc _, fun _ h => h, gr_bel (bal (Below.refl _ _) _)⟩
  | cons x fs =>
    obtain ⟨b, o, rfl, hlt, hc⟩ := hS.at (by simp)
    have hbg : b ≠ gF := hne (by simp) b rfl
    obtain ⟨fk, fK⟩ := x
    have k0 : w.cell? ⟨b, o, none⟩ = some (.int .i64 fk) := hc 0 _ rfl
    have k1 : w.cell? ⟨b, o + 1, none⟩ = some (.int .i64 fK) := hc 1 _ rfl
    have HT := fun W (h : SlAt W _ 2 (fs.length + 1) (fltsC (⟨fk, fK⟩ :: fs))) v hv => slat_tail (W := W) (v := v) b o c h hv
    have HB := Lib.hid hB
    have HS := Lib.hid hS
    have HH := Lib.hid HT
    clear hB hS hne hc HT
    simp only [List.length_cons] at *
    have key : ∀ v', v' = (if c - 1 = 0 then Value.slice (some ⟨b, o, none⟩) fs.length (c - 1) else .slice (some ⟨b, o + 2, none⟩) fs.length (c - 1)) → ∀ o1 o2 : Obj,
        ∃ v'', Ending.returned (fltV ⟨fk, fK⟩) = .returned (fltV ⟨fk, fK⟩) ∧ (((w.setCell ⟨gF, 0, none⟩ v').alloc o1).alloc o2).heap[gF]? = some (.cells #[v''] 47 (0, 0)) ∧ SlAt (((w.setCell ⟨gF, 0, none⟩ v').alloc o1).alloc o2) v'' 2 fs.length (fltsC fs) ∧ (∀ b', v''.ownBlock = some b' → (Value.slice (some ⟨b, o, none⟩) (fs.length + 1) c).ownBlock = some b') ∧ w.grownBy (((w.setCell ⟨gF, 0, none⟩ v').alloc o1).alloc o2) (some gF) := by
      intro v' hv o1 o2
      have hs := HH.out w HS.out v' hv
      have hs2 := ((hs.1.store (p := ⟨gF, 0, none⟩) (fun b' hb' => by rw [hs.2] at hb'; injection hb' with hb'; subst hb'; exact hbg) v').alloc o1).alloc o2
      refine ⟨v', rfl, blk_alloc _ (blk_alloc _ (blk_set HB.out 0 _)), hs2, fun b' hb' => by rw [hs.2] at hb'; exact hb', ?_⟩
      exact ((gr_set4 (World.grownBy.refl w (some gF)) v').trans (gr_bel (bal (Below.refl _ _) o1))).trans (gr_bel (bal (Below.refl _ _) o2))
    have HK := Lib.hid key
    clear key HH HS HB
    by_cases hc1 : c - 1 = 0
    · obtain rfl : c = 1 := by omega
      obtain rfl : fs = [] := List.eq_nil_of_length_eq_zero (by omega)
      go_enter Try.func51, Try.ntmps51
      go_wp2
      refine bodyPost_ret (v := .agg #[.int .i64 fk, .int .i64 fK]) ?_ rfl ?_
      · simp [results, Try.results51, go_sem]
      · obtain ⟨v'', _, h1, h2, h3, h4⟩ := HK.out _ rfl (.cells #[.int .i64 fk, .int .i64 fK] 45) (.cells #[.int .i64 fk, .int .i64 fK] 45)
        exact ⟨rfl, v'', h1, h2, h3, h4⟩
    · go_enter Try.func51, Try.ntmps51
      go_wp2
      refine bodyPost_ret (v := .agg #[.int .i64 fk, .int .i64 fK]) ?_ rfl ?_
      · simp [results, Try.results51, go_sem]
      · obtain ⟨v'', _, h1, h2, h3, h4⟩ := HK.out _ (by rw [if_neg hc1]) (.cells #[.int .i64 fk, .int .i64 fK] 45) (.cells #[.int .i64 fk, .int .i64 fK] 45)
        first | exact ⟨rfl, v'', h1, h2, h3, h4⟩ | exact ⟨v'', rfl, h1, h2, h3, h4⟩
def wrL (xs : List ByteArray) (i : Int) (t : ByteArray) (f : Flt) : List ByteArray × Int := if f.kind = 1 then (xs, 8) else if f.kind = 2 then (tearL xs i t f.k, 9) else (tearL xs i t 128, 0)
def turnW (g : Int) : List ByteArray → Nat → List ByteArray → List Flt → List ByteArray × Int
  | xs, _, [], fs => wrL xs (g % 2) (sealS g 0 ⟨#[]⟩) (fs.headD fz)
  | xs, i, p :: l, fs => if (wrL xs (placeD xs g i) (sealS g (i + 1) p) (fs.headD fz)).2 = 0 then turnW g (wrL xs (placeD xs g i) (sealS g (i + 1) p) (fs.headD fz)).1 (i + 1) l fs.tail else wrL xs (placeD xs g i) (sealS g (i + 1) p) (fs.headD fz)
def wrEnd (k : Int) : Ending := if k = 0 then .returned (.tuple #[]) else .panicked [{ v := stopV k, recovered := false }]
theorem swrite_any (g : Nat) (v : Value) (xs : List ByteArray) (gen used top : Int) (at_ gn no : Int) (p : ByteArray) (f : Flt) (w : World)
    (hB : w.heap[g]? = some (.cells (SC v gen used top false) 26 (0, 0))) (hS : SlAt w v 1 xs.length (strs xs)) (hne : ∀ b, v.ownBlock = some b → b ≠ g) :
    Calls Try.prog 50 #[.pointer (some ⟨g, 0, none⟩), .int .i64 at_, .int .i64 gn, .int .i64 no, .string p, fltV f] w fun e w' =>
      ∃ v', e = wrEnd (wrL xs at_ (sealS gn no p) f).2 ∧ w'.heap[g]? = some (.cells (SC v' gen used top (decide ((wrL xs at_ (sealS gn no p) f).2 = 9))) 26 (0, 0)) ∧ SlAt w' v' 1 (wrL xs at_ (sealS gn no p) f).1.length (strs (wrL xs at_ (sealS gn no p) f).1) ∧ (v' = v ∨ FreshV w.heap.size v') ∧ w.grownBy w' (some g) := by
  obtain ⟨fk, fK⟩ := f
  unfold wrL fltV
  by_cases h1 : fk = 1
  · subst h1
    simp only [if_true]
    refine (swrite_fail g v gen used top false at_ gn no p fK w hB).mono ?_
    rintro e w' ⟨rfl, hb⟩
    exact ⟨v, rfl, blk_call hb hB, hS.stay hb, .inl rfl, gr_bel hb⟩
  · by_cases h2 : fk = 2
    · subst h2
      simp only [show ¬ (2 : Int) = 1 by decide, if_false, if_true]
      refine (swrite_crash g v xs gen used top false at_ gn no p fK w hB hS hne).mono ?_
      rintro e w' ⟨v', rfl, k1, k2, k3, k4⟩
      exact ⟨v', rfl, k1, k2, .inr k3, k4⟩
    · simp only [h1, h2, if_false]
      refine (swrite_ok g v xs gen used top false at_ gn no p fk fK w hB hS hne h1 h2).mono ?_
      rintro e w' ⟨v', rfl, k1, k2, k3, k4⟩
      exact ⟨v', rfl, k1, k2, .inr k3, k4⟩
end Go.Proofs.Ytopaddpclipnjaa
namespace Go.Proofs.Ytopaddpclipnjaa
open Go.RowKit Go.Proofs.YtopaddpclipnjaaW.PrintLast
theorem goesC_ {P : Program} {Q : Exit → Act → World → Prop} {ops : Array Oper} {oi : Oper} {N : Option Tmp} {a : Act} {w : World} {K : Act → World → Prop} {x : Operand} (f : FuncId) (caps : Array Value)
    (hw : Region.wanted oi (yielded ops a.tmps) = true) (hN : oi.dst = N) (hop : oi.op = .call { callee := .value x, args := #[], argTypes := #[] }) (hx : a.eval x = .func (.func f) #[] caps) (he : Enters P f)
    (h : Calls P f caps w fun e w' => ∃ v, e = .returned v ∧ K (a.put N v) w') : if Region.wanted oi (yielded ops a.tmps) = true then Oper.wp P oi a w K Q else K (a.put N undef) w := by
  refine call_ f caps hw hN ?_ h
  have h1 := he caps w
  unfold execOp
  simp [hop, resolve, hx, Deferred.ofValue, invoke, h1]
structure G2 (g1 g2 : Nat) (w w' : World) : Prop where
  os : w'.os = w.os
  tape : w'.tape = w.tape
  output : w'.output = w.output
  size : w.heap.size ≤ w'.heap.size
  block : ∀ i, i < w.heap.size → i ≠ g1 → i ≠ g2 → w'.heap[i]? = w.heap[i]?
theorem G2.refl (g1 g2 : Nat) (w : World) : G2 g1 g2 w w := ⟨rfl, rfl, rfl, Nat.le_refl _, fun _ _ _ _ => rfl⟩
theorem G2.trans {g1 g2 : Nat} {w w1 w2 : World} (h : G2 g1 g2 w w1) (k : G2 g1 g2 w1 w2) : G2 g1 g2 w w2 :=
  ⟨k.os.trans h.os, k.tape.trans h.tape, k.output.trans h.output, Nat.le_trans h.size k.size, fun i hi a b => (k.block i (Nat.lt_of_lt_of_le hi h.size) a b).trans (h.block i hi a b)⟩
theorem G2.left {g1 g2 : Nat} {w w' : World} (h : w.grownBy w' (some g1)) : G2 g1 g2 w w' := ⟨h.os, h.tape, h.output, h.size, fun i hi a _ => h.block i hi (fun e => a (Option.some.inj e))⟩
theorem G2.right {g1 g2 : Nat} {w w' : World} (h : w.grownBy w' (some g2)) : G2 g1 g2 w w' := ⟨h.os, h.tape, h.output, h.size, fun i hi _ b => h.block i hi (fun e => b (Option.some.inj e))⟩
theorem G2.below {g1 g2 : Nat} {w w' : World} (h : Below w.heap.size w w') : G2 g1 g2 w w' := ⟨h.os, h.tape, h.output, h.size, fun i hi _ _ => h.block i hi⟩
theorem SlAt.grown {W W' : World} {v : Value} {sz n : Nat} {cells : List Value} {g1 g2 : Nat} (h : SlAt W v sz n cells) (hg : G2 g1 g2 W W') (h1 : 0 < n → ∀ b, v.ownBlock = some b → b ≠ g1) (h2 : 0 < n → ∀ b, v.ownBlock = some b → b ≠ g2) : SlAt W' v sz n cells := by
  obtain ⟨hl, a, c, hv, k1, k2, h3⟩ := h
  refine ⟨hl, a, c, hv, k1, k2, ?_⟩
  rcases Nat.eq_zero_or_pos n with hz | hz
  · exact .inl hz
  rcases h3 with h3 | ⟨b, o, ha, hlt, hc⟩
  · exact .inl h3
  · have hb : v.ownBlock = some b := by rw [hv, ha]; rfl
    refine .inr ⟨b, o, ha, Nat.lt_of_lt_of_le hlt hg.size, fun j u hu => ?_⟩
    rw [World.cell?_of_block (a := ⟨b, o + j, none⟩) (hg.block b hlt (h1 hz b hb) (h2 hz b hb))]
    exact hc j u hu
structure TS (gs gF gl gg gn : Nat) (v vf v1 : Value) (ys l : List ByteArray) (fr : List Flt) (gen used top g : Int) (W : World) : Prop where
  bs : W.heap[gs]? = some (.cells (SC v gen used top false) 26 (0, 0))
  ss : SlAt W v 1 ys.length (strs ys)
  ns : ∀ b, v.ownBlock = some b → b ≠ gs
  ns' : ∀ b, v.ownBlock = some b → b ≠ gF
  bF : W.heap[gF]? = some (.cells #[vf] 47 (0, 0))
  sF : SlAt W vf 2 fr.length (fltsC fr)
  nF : 0 < fr.length → ∀ b, vf.ownBlock = some b → b ≠ gF
  nF' : 0 < fr.length → ∀ b, vf.ownBlock = some b → b ≠ gs
  bl : W.heap[gl]? = some (.cells #[v1] 22 (0, 0))
  sl : SlAt W v1 1 l.length (strs l)
  nl : 0 < l.length → ∀ b, v1.ownBlock = some b → b ≠ gs
  nl' : 0 < l.length → ∀ b, v1.ownBlock = some b → b ≠ gF
  bg : W.heap[gg]? = some (.cells #[.int .i64 g] 3 (0, 0))
  bn : W.heap[gn]? = some (.cells #[.func (.func 51) #[] #[.pointer (some ⟨gF, 0, none⟩)]] 81 (0, 0))
  d1 : gs ≠ gF
  d2 : gl ≠ gs ∧ gl ≠ gF
  d3 : gg ≠ gs ∧ gg ≠ gF
  d4 : gn ≠ gs ∧ gn ≠ gF
section
variable {gs gF gl gg gn : Nat} {v vf v1 : Value} {ys l : List ByteArray} {fr : List Flt} {gen used top g : Int} {W W' : World}
theorem TS.c0 (h : TS gs gF gl gg gn v vf v1 ys l fr gen used top g W) : W.cell? ⟨gs, 0, none⟩ = some v := blk_cell h.bs (j := 0) rfl
theorem TS.cg (h : TS gs gF gl gg gn v vf v1 ys l fr gen used top g W) : W.cell? ⟨gg, 0, none⟩ = some (.int .i64 g) := blk_cell h.bg (j := 0) rfl
theorem TS.cn (h : TS gs gF gl gg gn v vf v1 ys l fr gen used top g W) : W.cell? ⟨gn, 0, none⟩ = some (.func (.func 51) #[] #[.pointer (some ⟨gF, 0, none⟩)]) := blk_cell h.bn (j := 0) rfl
theorem TS.cl (h : TS gs gF gl gg gn v vf v1 ys l fr gen used top g W) : W.cell? ⟨gl, 0, none⟩ = some v1 := blk_cell h.bl (j := 0) rfl
theorem TS.below (h : TS gs gF gl gg gn v vf v1 ys l fr gen used top g W) (hb : Below W.heap.size W W') : TS gs gF gl gg gn v vf v1 ys l fr gen used top g W' :=
  ⟨blk_call hb h.bs, h.ss.stay hb, h.ns, h.ns', blk_call hb h.bF, h.sF.stay hb, h.nF, h.nF', blk_call hb h.bl, h.sl.stay hb, h.nl, h.nl', blk_call hb h.bg, blk_call hb h.bn, h.d1, h.d2, h.d3, h.d4⟩
theorem keep2 {g1 i : Nat} {o : Obj} (hg : W.grownBy W' (some g1)) (h : W.heap[i]? = some o) (hi : i ≠ g1) : W'.heap[i]? = some o := (hg.block i (blk_lt h) (fun e => hi (Option.some.inj e))).trans h
theorem TS.next {vf' : Value} (h : TS gs gF gl gg gn v vf v1 ys l fr gen used top g W) (hB : W'.heap[gF]? = some (.cells #[vf'] 47 (0, 0))) (hS : SlAt W' vf' 2 fr.tail.length (fltsC fr.tail)) (hN : ∀ b, vf'.ownBlock = some b → vf.ownBlock = some b) (hg : W.grownBy W' (some gF)) :
    TS gs gF gl gg gn v vf' v1 ys l fr.tail gen used top g W' :=
  ⟨keep2 hg h.bs h.d1, h.ss.grown (G2.right (g1 := gs) hg) (fun _ => h.ns) (fun _ => h.ns'), h.ns, h.ns', hB, hS, fun hz b hb => h.nF (by cases fr <;> simp at hz ⊢) b (hN b hb), fun hz b hb => h.nF' (by cases fr <;> simp at hz ⊢) b (hN b hb), keep2 hg h.bl h.d2.2, h.sl.grown (G2.right (g1 := gs) hg) h.nl h.nl', h.nl, h.nl', keep2 hg h.bg h.d3.2, keep2 hg h.bn h.d4.2, h.d1, h.d2, h.d3, h.d4⟩
theorem TS.wrote {v' : Value} {zs : List ByteArray} (h : TS gs gF gl gg gn v vf v1 ys l fr gen used top g W) (hB : W'.heap[gs]? = some (.cells (SC v' gen used top false) 26 (0, 0))) (hS : SlAt W' v' 1 zs.length (strs zs)) (hN : v' = v ∨ FreshV W.heap.size v') (hg : W.grownBy W' (some gs)) :
    TS gs gF gl gg gn v' vf v1 zs l fr gen used top g W' := by
  have hs := blk_lt h.bs
  have hF := blk_lt h.bF
  refine ⟨hB, hS, ?_, ?_, keep2 hg h.bF (Ne.symm h.d1), h.sF.grown (G2.left (g2 := gF) hg) h.nF' h.nF, h.nF, h.nF', keep2 hg h.bl h.d2.1, h.sl.grown (G2.left (g2 := gF) hg) h.nl h.nl', h.nl, h.nl', keep2 hg h.bg h.d3.1, keep2 hg h.bn h.d4.1, h.d1, h.d2, h.d3, h.d4⟩
  · rcases hN with rfl | hN
    · exact h.ns
    · intro b hb
      have := hN b hb
      omega
  · rcases hN with rfl | hN
    · exact h.ns'
    · intro b hb
      have := hN b hb
      omega
end
theorem wrL_len (xs : List ByteArray) (i : Int) (t : ByteArray) (f : Flt) : (wrL xs i t f).1.length ≤ xs.length := by
  have ht : ∀ k, (tearL xs i t k).length ≤ xs.length := by
    intro k
    unfold tearL
    split
    · simp
    · simp
  unfold wrL
  split
  · exact Nat.le_refl _
  · split
    · exact ht _
    · exact ht _
theorem small64 (x : Int) (h0 : 0 ≤ x) (h1 : x ≤ 100000) : wrap64 x = x ∧ IntKind.i64.wrap x = x := by
  have h : wrap64 x = x := by unfold wrap64; omega
  refine ⟨h, ?_⟩
  rw [IntKind.wrap_i64]
  unfold wrap64 at h
  exact h
theorem tfacts {i n : Nat} (h : i < n) (hn : n ≤ 900) : 0 ≤ (i : Int) ∧ (i : Int) ≤ 1000 ∧ 0 ≤ (i : Int) + 1 ∧ (i : Int) + 1 ≤ 100000 ∧ n - ((i : Int) + 1).toNat < n - (i : Int).toNat ∧ i + 1 ≤ n := by
  refine ⟨?_, ?_, ?_, ?_, ?_, ?_⟩ <;> omega
theorem turnW_go {g : Int} {ys : List ByteArray} {i : Nat} {p : ByteArray} {l : List ByteArray} {fr : List Flt} {R : List ByteArray × Int} (h : R = turnW g ys i (p :: l) fr) (hk : (wrL ys (placeD ys g i) (sealS g (i + 1) p) (fr.headD fz)).2 = 0) :
    R = turnW g (wrL ys (placeD ys g i) (sealS g (i + 1) p) (fr.headD fz)).1 (i + 1) l fr.tail := by
  rw [h]
  conv => lhs; unfold turnW
  rw [if_pos hk]
theorem turnW_nil {g : Int} {ys : List ByteArray} {i : Nat} {fr : List Flt} {R : List ByteArray × Int} (g0 : 0 ≤ g) (h : R = turnW g ys i [] fr) : R = wrL ys (g.tmod 2) (sealS g 0 ⟨#[]⟩) (fr.headD fz) := by
  rw [h, show g.tmod 2 = g % 2 from Int.tmod_eq_emod_of_nonneg g0]
  unfold turnW
  rfl
theorem turnW_stop {g : Int} {ys : List ByteArray} {i : Nat} {p : ByteArray} {l : List ByteArray} {fr : List Flt} {R : List ByteArray × Int} (h : R = turnW g ys i (p :: l) fr) (hk : ¬ (wrL ys (placeD ys g i) (sealS g (i + 1) p) (fr.headD fz)).2 = 0) :
    R = wrL ys (placeD ys g i) (sealS g (i + 1) p) (fr.headD fz) := by
  rw [h]
  unfold turnW
  rw [if_neg hk]
def TEnd (gs gF : Nat) (v : Value) (R : List ByteArray × Int) (n : Int) (gen used top g : Int) (w : World) (e : Ending) (w' : World) : Prop :=
  ∃ v', e = wrEnd R.2 ∧ w'.heap[gs]? = some (.cells (SC v' (if R.2 = 0 then g else gen) (if R.2 = 0 then n else used) top (decide (R.2 = 9))) 26 (0, 0)) ∧ SlAt w' v' 1 R.1.length (strs R.1) ∧ (v' = v ∨ FreshV w.heap.size v') ∧ G2 gs gF w w'
set_option maxRecDepth 100000 in
set_option maxHeartbeats 8000000 in
theorem turn2_any (gs gF gl gg gn : Nat) (v vf v1 : Value) (xs l : List ByteArray) (fs : List Flt) (gen used top g : Int) (w : World) (hT : TS gs gF gl gg gn v vf v1 xs l fs gen used top g w) (hx : xs.length ≤ 1000) (g0 : 0 ≤ g) (g1 : g ≤ 1000) (hl : l.length ≤ 900) :
    Calls Try.prog 52 #[.pointer (some ⟨gl, 0, none⟩), .pointer (some ⟨gs, 0, none⟩), .pointer (some ⟨gg, 0, none⟩), .pointer (some ⟨gn, 0, none⟩)] w (TEnd gs gF v (turnW g xs 0 l fs) l.length gen used top g w) := by
  have henN : Enters Try.prog 51 := enters_of Try.func51 (by kernel_rfl) rfl
  have HT := Lib.hid hT
  obtain ⟨a1, c1, rfl, _, _⟩ := hT.sl.form
  have k1 := hT.cl
  have hgl := blk_free hT.bl 0
  clear hT
  obtain ⟨R, hR⟩ : ∃ R, R = turnW g xs 0 l fs := ⟨_, rfl⟩
  rw [← hR]
  obtain ⟨Q, hQ⟩ : ∃ Q, Q = TEnd gs gF v R l.length gen used top g w := ⟨_, rfl⟩
  rw [← hQ]
  have HQ := Lib.hid hQ
  have HR := Lib.hid hR
  clear hQ hR
  go_enter Try.func52, Try.ntmps52
  go_wp2
  go_loopw [4, 5, 8] (fun _ _ i_ wr => ∃ (i : Nat) (u uf : Value) (ys : List ByteArray) (fr : List Flt), i ≤ l.length ∧ i_ = .int .i64 i ∧ ys.length ≤ 1000 ∧ Hid (TS gs gF gl gg gn u uf (.slice a1 l.length c1) ys l fr gen used top g wr) ∧ Hid (R = turnW g ys i (l.drop i) fr) ∧ Hid (u = v ∨ FreshV w.heap.size u) ∧ Hid (G2 gs gF w wr)) (fun _ _ i _ => l.length - (intOf i).toNat)
  case atStart => exact ⟨0, v, vf, xs, fs, Nat.zero_le _, rfl, hx, HT, HR, Lib.hid (.inl rfl), Lib.hid (G2.refl _ _ _)⟩
  case round =>
    obtain ⟨i, u, vf, ys, fr, hi, rfl, hy, HTi, HRi, HU, HG⟩ := hrel
    by_cases hlt : i < l.length
    · obtain ⟨a0, c0, rfl, _, _⟩ := HTi.out.ss.form
      obtain ⟨b, o, rfl, hbl, hcell⟩ := HTi.out.sl.at (by omega)
      have k2 : wr.cell? ⟨b, o + i, none⟩ = some (.string l[i]) := hcell i _ (strs_get _ _ hlt)
      clear hcell
      obtain ⟨p, hp⟩ : ∃ p, p = l[i] := ⟨_, rfl⟩
      rw [← hp] at k2
      have hdrop : l.drop i = p :: l.drop (i + 1) := by rw [hp]; exact List.drop_eq_getElem_cons hlt
      rw [hdrop] at HRi
      have HD := Lib.hid hdrop
      clear hp hdrop
      obtain ⟨f1, f2, f3, f4, hm, hi1⟩ := tfacts hlt hl
      obtain ⟨hwi, hwj⟩ := small64 ((i : Int) + 1) f3 f4
      have HP := Lib.hid (fun W h => place_any (.slice a0 ys.length c0) ys g i W h hy g0 g1 f1 f2)
      go_wp2_with fail
      as_aux_lemma =>
      have TD : Hid (TS gs gF gl gg gn (.slice a0 ys.length c0) vf (.slice (some ⟨b, o, none⟩) l.length c1) ys l fr gen used top g wr.drew) := Lib.hid (HTi.out.below (bdn (Below.refl _ _) 1))
      clear HTi
      have hd := TD.out.ss
      refine start_ (n := 12) (S := fun w' => w'.cell? ⟨gs, 0, none⟩ = some (Value.slice a0 ys.length c0) ∧ w'.cell? ⟨gg, 0, none⟩ = some (.int .i64 g) ∧ w'.cell? ⟨gn, 0, none⟩ = some (.func (.func 51) #[] #[.pointer (some ⟨gF, 0, none⟩)])) (ds := [11]) #[false, false, false, false, false, false, false, false, false, false, false, false] (by kernel_rfl) rfl rfl ⟨TD.out.c0, TD.out.cg, TD.out.cn⟩ (fun hHeld => ?_)
      refine pure_ (i := 0) (N := some 13) (v := ?_) (a' := ?_) #[true, false, false, false, false, false, false, false, false, false, false, false] rfl rfl (by kernel_rfl) (fun _ _ _ h => h) (Or.inl ⟨by rfl, ?_⟩) ?_ ?_
      rotate_left
      · intro w'
        go_simp
        with_reducible rfl
      rotate_left
      · simp only [Act.put, List.setIfInBounds_toArray, List.set_cons_zero, List.set_cons_succ, i64_w, i32_w]
        rfl
      refine take_ (i := 1) (N := some 14) (v := ?_) (a' := ?_) #[true, true, false, false, false, false, false, false, false, false, false, false] rfl rfl (by kernel_rfl) (fun _ _ _ h => h) (Or.inl ⟨by rfl, ?_⟩) hHeld ?_ ?_
      rotate_left
      · rintro w' ⟨s0, s1, s2⟩
        go_simp
        with_reducible rfl
      rotate_left
      · simp only [Act.put, List.setIfInBounds_toArray, List.set_cons_zero, List.set_cons_succ, i64_w, i32_w]
        rfl
      refine take_ (i := 2) (N := some 15) (v := ?_) (a' := ?_) #[true, true, true, false, false, false, false, false, false, false, false, false] rfl rfl (by kernel_rfl) (fun _ _ _ h => h) (Or.inl ⟨by rfl, ?_⟩) hHeld ?_ ?_
      rotate_left
      · rintro w' ⟨s0, s1, s2⟩
        go_simp
        with_reducible rfl
      rotate_left
      · simp only [Act.put, List.setIfInBounds_toArray, List.set_cons_zero, List.set_cons_succ, i64_w, i32_w]
        rfl
      refine pure_ (i := 3) (N := some 16) (v := ?_) (a' := ?_) #[true, true, true, true, false, false, false, false, false, false, false, false] rfl rfl (by kernel_rfl) (fun _ _ _ h => h) (Or.inl ⟨by rfl, ?_⟩) ?_ ?_
      rotate_left
      · intro w'
        go_simp
        with_reducible rfl
      rotate_left
      · simp only [Act.put, List.setIfInBounds_toArray, List.set_cons_zero, List.set_cons_succ, i64_w, i32_w]
        rfl
      refine take_ (i := 5) (N := some 18) (v := ?_) (a' := ?_) #[true, true, true, true, false, true, false, false, false, false, false, false] rfl rfl (by kernel_rfl) (fun _ _ _ h => h) (Or.inl ⟨by rfl, ?_⟩) hHeld ?_ ?_
      rotate_left
      · rintro w' ⟨s0, s1, s2⟩
        go_simp
        with_reducible rfl
      rotate_left
      · simp only [Act.put, List.setIfInBounds_toArray, List.set_cons_zero, List.set_cons_succ, i64_w, i32_w]
        rfl
      refine pure_ (i := 6) (N := some 19) (v := ?_) (a' := ?_) #[true, true, true, true, false, true, true, false, false, false, false, false] rfl rfl (by kernel_rfl) (fun _ _ _ h => h) (Or.inl ⟨by rfl, ?_⟩) ?_ ?_
      rotate_left
      · intro w'
        go_simp
        with_reducible rfl
      rotate_left
      · simp only [Act.put, List.setIfInBounds_toArray, List.set_cons_zero, List.set_cons_succ, i64_w, i32_w]
        rfl
      refine pure_ (i := 7) (N := some 20) (v := ?_) (a' := ?_) #[true, true, true, true, false, true, true, true, false, false, false, false] rfl rfl (by kernel_rfl) (fun _ _ _ h => h) (Or.inl ⟨by rfl, ?_⟩) ?_ ?_
      rotate_left
      · intro w'
        go_simp
        with_reducible rfl
      rotate_left
      · simp only [Act.put, List.setIfInBounds_toArray, List.set_cons_zero, List.set_cons_succ, i64_w, i32_w]
        rfl
      refine pure_ (i := 8) (N := some 21) (v := ?_) (a' := ?_) #[true, true, true, true, false, true, true, true, true, false, false, false] rfl rfl (by kernel_rfl) (fun _ _ _ h => h) (Or.inl ⟨by rfl, ?_⟩) ?_ ?_
      rotate_left
      · intro w'
        go_simp
        with_reducible rfl
      rotate_left
      · simp only [Act.put, List.setIfInBounds_toArray, List.set_cons_zero, List.set_cons_succ, i64_w, i32_w]
        rfl
      refine take_ (i := 9) (N := some 22) (v := ?_) (a' := ?_) #[true, true, true, true, false, true, true, true, true, true, false, false] rfl rfl (by kernel_rfl) (fun _ _ _ h => h) (Or.inl ⟨by rfl, ?_⟩) hHeld ?_ ?_
      rotate_left
      · rintro w' ⟨s0, s1, s2⟩
        go_simp
        with_reducible rfl
      rotate_left
      · simp only [Act.put, List.setIfInBounds_toArray, List.set_cons_zero, List.set_cons_succ, i64_w, i32_w]
        rfl
      refine one_ (i := 4) (N := some 17) #[true, true, true, true, true, true, true, true, true, true, false, false] rfl rfl (by kernel_rfl) (by decide) (fun K hK => ?_)
      refine goes_ Try.func38 (by kernel_rfl) rfl #[.agg #[.slice a0 ys.length c0], .int .i64 g, .int .i64 i] (by rfl) rfl rfl (by (try simp only [List.map_toArray, List.map_cons, List.map_nil]); first | done | rfl) ?_
      refine (HP.out _ hd).mono ?_
      rintro e w1 ⟨rfl, hb1⟩
      refine ⟨_, rfl, ?_⟩
      have T1 := Lib.hid (TS.below TD.out hb1)
      refine hK.out _ _ ⟨T1.out.c0, T1.out.cg, T1.out.cn⟩ (fun hHeld => ?_)
      clear hK K
      refine norm_ (a' := ?_) ?_ ?_
      rotate_left
      · show Act.put _ (some 17) _ = _
        simp only [Act.put, List.setIfInBounds_toArray, List.set_cons_zero, List.set_cons_succ, i64_w, i32_w]
        rfl
      refine one_ (i := 10) (N := some 23) #[true, true, true, true, true, true, true, true, true, true, true, false] rfl rfl (by kernel_rfl) (by decide) (fun K hK => ?_)
      refine goesC_ 51 #[.pointer (some ⟨gF, 0, none⟩)] (by rfl) rfl rfl (by rfl) henN ?_
      refine (next_any gF vf fr _ T1.out.bF T1.out.sF T1.out.nF).mono ?_
      rintro e w2 ⟨vf', rfl, hBF, hSF, hNF, hGF⟩
      refine ⟨_, rfl, ?_⟩
      have T2 := Lib.hid (TS.next T1.out hBF hSF hNF hGF)
      refine hK.out _ _ ⟨T2.out.c0, T2.out.cg, T2.out.cn⟩ (fun hHeld => ?_)
      clear hK K
      refine norm_ (a' := ?_) ?_ ?_
      rotate_left
      · show Act.put _ (some 23) _ = _
        simp only [Act.put, List.setIfInBounds_toArray, List.set_cons_zero, List.set_cons_succ, i64_w, i32_w]
        rfl
      refine last_ (i := 11) (N := some 24) #[true, true, true, true, true, true, true, true, true, true, true, true] rfl rfl (by kernel_rfl) (by decide) (fun K hK => ?_)
      by_cases hk : (wrL ys (placeD ys g i) (sealS g (i + 1) p) (fr.headD fz)).2 = 0
      · refine goes_ Try.func50 (by kernel_rfl) rfl #[.pointer (some ⟨gs, 0, none⟩), .int .i64 (placeD ys g i), .int .i64 g, .int .i64 (i + 1), .string p, fltV (fr.headD fz)] (by rfl) rfl rfl (by (try simp only [List.map_toArray, List.map_cons, List.map_nil]); first | done | rfl) ?_
        refine (swrite_any gs _ ys gen used top (placeD ys g i) g (i + 1) p (fr.headD fz) _ T2.out.bs T2.out.ss T2.out.ns).mono ?_
        rintro e w3 ⟨v3, rfl, hB3, hS3, hF3, hG3⟩
        refine ⟨.tuple #[], by unfold wrEnd; rw [if_pos hk], ?_⟩
        refine hK.out _ _ ?_
        clear hK K
        refine norm_ (a' := ?_) ?_ ?_
        rotate_left
        · show Act.put _ (some 24) _ = _
          simp only [Act.put, List.setIfInBounds_toArray, List.set_cons_zero, List.set_cons_succ, i64_w, i32_w]
          rfl
        refine done_ (by kernel_rfl) ?_
        have T3 := Lib.hid (T2.out.wrote (by rw [show decide ((wrL ys (placeD ys g i) (sealS g (i + 1) p) (fr.headD fz)).2 = 9) = false by rw [hk]; rfl] at hB3; exact hB3) hS3 hF3 hG3)
        have hg3 : G2 gs gF w w3 := ((((HG.out.trans (G2.below (bdn (Below.refl _ _) 1))).trans (G2.below hb1)).trans (G2.right hGF)).trans (G2.left hG3))
        have hu3 : v3 = v ∨ FreshV w.heap.size v3 := hF3.elim (fun h => by rw [h]; exact HU.out) (fun h => .inr (h.mono (((HG.out.trans (G2.below (bdn (Below.refl _ _) 1))).trans (G2.below hb1)).trans (G2.right hGF)).size))
        have HR3 := Lib.hid (turnW_go HRi.out hk)
        clear HP
        go_wp2_with fail
        exact ⟨⟨i + 1, v3, vf', _, fr.tail, hi1, rfl, Nat.le_trans (wrL_len _ _ _ _) hy, T3, HR3, Lib.hid hu3, Lib.hid hg3⟩, hm⟩
      · refine goesP_ Try.func50 (by kernel_rfl) rfl #[.pointer (some ⟨gs, 0, none⟩), .int .i64 (placeD ys g i), .int .i64 g, .int .i64 (i + 1), .string p, fltV (fr.headD fz)] (by rfl) rfl (by (try simp only [List.map_toArray, List.map_cons, List.map_nil]); first | done | rfl) ?_
        refine (swrite_any gs _ ys gen used top (placeD ys g i) g (i + 1) p (fr.headD fz) _ T2.out.bs T2.out.ss T2.out.ns).mono ?_
        rintro e w3 ⟨v3, rfl, hB3, hS3, hF3, hG3⟩
        refine ⟨_, by unfold wrEnd; rw [if_neg hk], ?_⟩
        have hg3 : G2 gs gF w w3 := ((((HG.out.trans (G2.below (bdn (Below.refl _ _) 1))).trans (G2.below hb1)).trans (G2.right hGF)).trans (G2.left hG3))
        have hu3 : v3 = v ∨ FreshV w.heap.size v3 := hF3.elim (fun h => by rw [h]; exact HU.out) (fun h => .inr (h.mono (((HG.out.trans (G2.below (bdn (Below.refl _ _) 1))).trans (G2.below hb1)).trans (G2.right hGF)).size))
        have HR3 := Lib.hid (turnW_stop HRi.out hk)
        refine And.intro rfl ?_
        rw [HQ.out]
        refine ⟨v3, by unfold wrEnd; rw [HR3.out, if_neg hk], ?_, by rw [HR3.out]; exact hS3, hu3, hg3⟩
        rw [HR3.out, if_neg hk, if_neg hk]
        exact hB3
    · obtain rfl : i = l.length := by omega
      have hdrop : l.drop l.length = [] := List.drop_length
      rw [hdrop] at HRi
      clear hdrop
      obtain ⟨a0, c0, rfl, _, _⟩ := HTi.out.ss.form
      go_wp2_with fail
      as_aux_lemma =>
      have TD : Hid (TS gs gF gl gg gn (.slice a0 ys.length c0) vf (.slice a1 l.length c1) ys l fr gen used top g wr.drew) := Lib.hid (HTi.out.below (bdn (Below.refl _ _) 1))
      clear HTi
      refine start_ (n := 6) (S := fun w' => w'.cell? ⟨gs, 0, none⟩ = some (Value.slice a0 ys.length c0) ∧ w'.cell? ⟨gg, 0, none⟩ = some (.int .i64 g) ∧ w'.cell? ⟨gn, 0, none⟩ = some (.func (.func 51) #[] #[.pointer (some ⟨gF, 0, none⟩)])) (ds := [5]) #[false, false, false, false, false, false] (by kernel_rfl) rfl rfl ⟨TD.out.c0, TD.out.cg, TD.out.cn⟩ (fun hHeld => ?_)
      refine take_ (i := 0) (N := some 26) (v := ?_) (a' := ?_) #[true, false, false, false, false, false] rfl rfl (by kernel_rfl) (fun _ _ _ h => h) (Or.inl ⟨by rfl, ?_⟩) hHeld ?_ ?_
      rotate_left
      · rintro w' ⟨s0, s1, s2⟩
        go_simp
        with_reducible rfl
      rotate_left
      · simp only [Act.put, List.setIfInBounds_toArray, List.set_cons_zero, List.set_cons_succ, i64_w, i32_w]
        rfl
      refine pure_ (i := 1) (N := some 27) (v := ?_) (a' := ?_) #[true, true, false, false, false, false] rfl rfl (by kernel_rfl) (fun _ _ _ h => h) (Or.inl ⟨by rfl, ?_⟩) ?_ ?_
      rotate_left
      · intro w'
        go_simp
        with_reducible rfl
      rotate_left
      · simp only [Act.put, List.setIfInBounds_toArray, List.set_cons_zero, List.set_cons_succ, i64_w, i32_w]
        rfl
      refine take_ (i := 2) (N := some 28) (v := ?_) (a' := ?_) #[true, true, true, false, false, false] rfl rfl (by kernel_rfl) (fun _ _ _ h => h) (Or.inl ⟨by rfl, ?_⟩) hHeld ?_ ?_
      rotate_left
      · rintro w' ⟨s0, s1, s2⟩
        go_simp
        with_reducible rfl
      rotate_left
      · simp only [Act.put, List.setIfInBounds_toArray, List.set_cons_zero, List.set_cons_succ, i64_w, i32_w]
        rfl
      refine take_ (i := 3) (N := some 29) (v := ?_) (a' := ?_) #[true, true, true, true, false, false] rfl rfl (by kernel_rfl) (fun _ _ _ h => h) (Or.inl ⟨by rfl, ?_⟩) hHeld ?_ ?_
      rotate_left
      · rintro w' ⟨s0, s1, s2⟩
        go_simp
        with_reducible rfl
      rotate_left
      · simp only [Act.put, List.setIfInBounds_toArray, List.set_cons_zero, List.set_cons_succ, i64_w, i32_w]
        rfl
      refine one_ (i := 4) (N := some 30) #[true, true, true, true, true, false] rfl rfl (by kernel_rfl) (by decide) (fun K hK => ?_)
      refine goesC_ 51 #[.pointer (some ⟨gF, 0, none⟩)] (by rfl) rfl rfl (by rfl) henN ?_
      refine (next_any gF vf fr _ TD.out.bF TD.out.sF TD.out.nF).mono ?_
      rintro e w2 ⟨vf', rfl, hBF, hSF, hNF, hGF⟩
      refine ⟨_, rfl, ?_⟩
      have T2 := Lib.hid (TS.next TD.out hBF hSF hNF hGF)
      refine hK.out _ _ ⟨T2.out.c0, T2.out.cg, T2.out.cn⟩ (fun hHeld => ?_)
      clear hK K
      refine norm_ (a' := ?_) ?_ ?_
      rotate_left
      · show Act.put _ (some 30) _ = _
        simp only [Act.put, List.setIfInBounds_toArray, List.set_cons_zero, List.set_cons_succ, i64_w, i32_w]
        rfl
      refine last_ (i := 5) (N := some 31) #[true, true, true, true, true, true] rfl rfl (by kernel_rfl) (by decide) (fun K hK => ?_)
      by_cases hk : (wrL ys (g.tmod 2) (sealS g 0 ⟨#[]⟩) (fr.headD fz)).2 = 0
      · refine goes_ Try.func50 (by kernel_rfl) rfl #[.pointer (some ⟨gs, 0, none⟩), .int .i64 (g.tmod 2), .int .i64 g, .int .i64 0, .string ⟨#[]⟩, fltV (fr.headD fz)] (by rfl) rfl rfl (by (try simp only [List.map_toArray, List.map_cons, List.map_nil]); first | done | rfl) ?_
        refine (swrite_any gs _ ys gen used top (g.tmod 2) g 0 ⟨#[]⟩ (fr.headD fz) _ T2.out.bs T2.out.ss T2.out.ns).mono ?_
        rintro e w3 ⟨v3, rfl, hB3, hS3, hF3, hG3⟩
        refine ⟨.tuple #[], by unfold wrEnd; rw [if_pos hk], ?_⟩
        refine hK.out _ _ ?_
        clear hK K
        refine norm_ (a' := ?_) ?_ ?_
        rotate_left
        · show Act.put _ (some 31) _ = _
          simp only [Act.put, List.setIfInBounds_toArray, List.set_cons_zero, List.set_cons_succ, i64_w, i32_w]
          rfl
        refine done_ (by kernel_rfl) ?_
        have T3 := Lib.hid (T2.out.wrote (by rw [show decide ((wrL ys (g.tmod 2) (sealS g 0 ⟨#[]⟩) (fr.headD fz)).2 = 9) = false by rw [hk]; rfl] at hB3; exact hB3) hS3 hF3 hG3)
        have hg3 : G2 gs gF w w3 := (((HG.out.trans (G2.below (bdn (Below.refl _ _) 1))).trans (G2.right hGF)).trans (G2.left hG3))
        have hu3 : v3 = v ∨ FreshV w.heap.size v3 := hF3.elim (fun h => by rw [h]; exact HU.out) (fun h => .inr (h.mono ((HG.out.trans (G2.below (bdn (Below.refl _ _) 1))).trans (G2.right hGF)).size))
        have x0 := T3.out.cg
        have x1 := T3.out.cl
        have f1 := blk_free T3.out.bs 1
        have f2 := blk_free T3.out.bs 2
        have y1 := blk_cell T3.out.bs (j := 1) rfl
        have y2 := blk_cell T3.out.bs (j := 2) rfl
        have HR3 := Lib.hid (turnW_nil g0 HRi.out)
        go_wp2_with fail
        all_goals
          refine bodyPost_ret (v := .tuple #[]) (by simp [results, Try.results52, go_sem]) rfl ?_
          rw [HQ.out]
          refine ⟨v3, by unfold wrEnd; rw [HR3.out, if_pos hk], ?_, ?_, hu3, hg3.trans (G2.left (gr_set4 (gr_set4 (World.grownBy.refl w3 (some gs)) _) _))⟩
          · rw [HR3.out, if_pos hk, if_pos hk, show decide ((wrL ys (g.tmod 2) (sealS g 0 ⟨#[]⟩) (fr.headD fz)).2 = 9) = false by rw [hk]; rfl]
            exact blk_set (blk_set T3.out.bs 1 _) 2 _
          · rw [HR3.out]
            exact (T3.out.ss.store (p := ⟨gs, 1, none⟩) T3.out.ns _).store (p := ⟨gs, 2, none⟩) T3.out.ns _
      · refine goesP_ Try.func50 (by kernel_rfl) rfl #[.pointer (some ⟨gs, 0, none⟩), .int .i64 (g.tmod 2), .int .i64 g, .int .i64 0, .string ⟨#[]⟩, fltV (fr.headD fz)] (by rfl) rfl (by (try simp only [List.map_toArray, List.map_cons, List.map_nil]); first | done | rfl) ?_
        refine (swrite_any gs _ ys gen used top (g.tmod 2) g 0 ⟨#[]⟩ (fr.headD fz) _ T2.out.bs T2.out.ss T2.out.ns).mono ?_
        rintro e w3 ⟨v3, rfl, hB3, hS3, hF3, hG3⟩
        refine ⟨_, by unfold wrEnd; rw [if_neg hk], ?_⟩
        have hg3 : G2 gs gF w w3 := (((HG.out.trans (G2.below (bdn (Below.refl _ _) 1))).trans (G2.right hGF)).trans (G2.left hG3))
        have hu3 : v3 = v ∨ FreshV w.heap.size v3 := hF3.elim (fun h => by rw [h]; exact HU.out) (fun h => .inr (h.mono ((HG.out.trans (G2.below (bdn (Below.refl _ _) 1))).trans (G2.right hGF)).size))
        have HR3 := Lib.hid (turnW_nil g0 HRi.out)
        refine And.intro rfl ?_
        rw [HQ.out]
        refine ⟨v3, by unfold wrEnd; rw [HR3.out, if_neg hk], ?_, by rw [HR3.out]; exact hS3, hu3, hg3⟩
        rw [HR3.out, if_neg hk, if_neg hk]
        exact hB3
end Go.Proofs.Ytopaddpclipnjaa
namespace Go.Proofs.Ytopaddpclipnjaa
open Go.RowKit Go.Proofs.YtopaddpclipnjaaW.PrintLast
theorem G2.setnew {g1 g2 : Nat} {w w1 : World} (h : G2 g1 g2 w w1) {b j : Nat} (hb : w.heap.size ≤ b) (u : Value) : G2 g1 g2 w (w1.setCell ⟨b, j, none⟩ u) :=
  ⟨h.os, h.tape, h.output, by have := h.size; simpa [World.setCell] using this, fun i hi p q => (Below.heap_setCell w1 ⟨b, j, none⟩ u i (by show i ≠ b; omega)).trans (h.block i hi p q)⟩
theorem tstop_any (gs gF gl gg gn : Nat) (v vf v1 : Value) (xs l : List ByteArray) (fs : List Flt) (gen used top g : Int) (w : World) (hT : TS gs gF gl gg gn v vf v1 xs l fs gen used top g w) (hx : xs.length ≤ 1000) (hx0 : 0 < xs.length) (g0 : 0 ≤ g) (g1 : g ≤ 1000) (hl : l.length ≤ 900) :
    Calls Try.prog 48 #[.func (.func 52) #[] #[.pointer (some ⟨gl, 0, none⟩), .pointer (some ⟨gs, 0, none⟩), .pointer (some ⟨gg, 0, none⟩), .pointer (some ⟨gn, 0, none⟩)]] w fun e w' =>
      ∃ v', e = .returned (.int .i64 (turnW g xs 0 l fs).2) ∧ w'.heap[gs]? = some (.cells (SC v' (if (turnW g xs 0 l fs).2 = 0 then g else gen) (if (turnW g xs 0 l fs).2 = 0 then l.length else used) top (decide ((turnW g xs 0 l fs).2 = 9))) 26 (0, 0)) ∧ SlAt w' v' 1 (turnW g xs 0 l fs).1.length (strs (turnW g xs 0 l fs).1) ∧ (v' = v ∨ FreshV w.heap.size v') ∧ G2 gs gF w w' := by
  have he : Enters Try.prog 52 := enters_of Try.func52 (by kernel_rfl) rfl
  have ha := turn2_any gs gF gl gg gn v vf v1 xs l fs gen used top g _ (hT.below (bal (Below.refl _ _) (.cells #[.int .i64 0] 29))) hx g0 g1 hl
  have hs := blk_lt hT.bs
  have hF := blk_lt hT.bF
  have hns := hT.ns
  have hsz : (w.alloc (.cells #[.int .i64 0] 29)).heap.size = w.heap.size + 1 := size_alloc _ _
  have hvd : ∀ b, v.ownBlock = some b → b < w.heap.size := fun b hb => slat_far hT.ss hx0 hb
  obtain ⟨R, hR⟩ : ∃ R, R = turnW g xs 0 l fs := ⟨_, rfl⟩
  rw [← hR] at ha ⊢
  unfold TEnd at ha
  by_cases hk : R.2 = 0
  · refine (stop_ret _ _ w (fun w1 => ∃ v', w1.heap[gs]? = some (.cells (SC v' (if R.2 = 0 then g else gen) (if R.2 = 0 then (l.length : Int) else used) top (decide (R.2 = 9))) 26 (0, 0)) ∧ SlAt w1 v' 1 R.1.length (strs R.1) ∧ (v' = v ∨ FreshV (w.heap.size + 1) v') ∧ G2 gs gF (w.alloc (.cells #[.int .i64 0] 29)) w1) he (ha.mono ?_)).mono ?_
    · rintro e w' ⟨v', rfl, k1, k2, k3, k4⟩
      refine ⟨by unfold wrEnd; rw [if_pos hk], (k4.block w.heap.size (by omega) (by omega) (by omega)).trans (blk_new w _), v', k1, k2, by rw [hsz] at k3; exact k3, k4⟩
    · rintro e w' ⟨w1, ⟨v', k1, k2, k3, k4⟩, rfl, rfl⟩
      refine ⟨v', by rw [hk], blk_set_far k1 (by show gs ≠ w.heap.size; omega) _, ?_, k3.imp id (fun h => h.mono (by omega)), ((G2.below (bal (Below.refl _ _) _)).trans k4).setnew (Nat.le_refl _) _⟩
      exact (k2.store (p := ⟨w.heap.size, 0, none⟩) (fun b hb => k3.elim (fun h => by subst h; have := hvd b hb; show b ≠ w.heap.size; omega) (fun h => by have := h b hb; show b ≠ w.heap.size; omega)) _)
  · refine (stop_pan _ _ R.2 w (fun w1 => ∃ v', w1.heap[gs]? = some (.cells (SC v' (if R.2 = 0 then g else gen) (if R.2 = 0 then (l.length : Int) else used) top (decide (R.2 = 9))) 26 (0, 0)) ∧ SlAt w1 v' 1 R.1.length (strs R.1) ∧ (v' = v ∨ FreshV (w.heap.size + 1) v') ∧ G2 gs gF (w.alloc (.cells #[.int .i64 0] 29)) w1) he (ha.mono ?_)).mono ?_
    · rintro e w' ⟨v', rfl, k1, k2, k3, k4⟩
      refine ⟨by unfold wrEnd; rw [if_neg hk], (k4.block w.heap.size (by omega) (by omega) (by omega)).trans (blk_new w _), v', k1, k2, by rw [hsz] at k3; exact k3, k4⟩
    · rintro e w' ⟨w1, ⟨v', k1, k2, k3, k4⟩, rfl, rfl⟩
      refine ⟨v', rfl, blk_set_far (blk_alloc _ k1) (by show gs ≠ w.heap.size; omega) _, ?_, k3.imp id (fun h => h.mono (by omega)), (((G2.below (bal (Below.refl _ _) _)).trans k4).trans (G2.below (bal (Below.refl _ _) _))).setnew (Nat.le_refl _) _⟩
      exact ((k2.alloc _).store (p := ⟨w.heap.size, 0, none⟩) (fun b hb => k3.elim (fun h => by subst h; have := hvd b hb; show b ≠ w.heap.size; omega) (fun h => by have := h b hb; show b ≠ w.heap.size; omega)) _)
def nextG (s : Sto) : Int := if (s.top + 1) % 2 = s.gen % 2 then s.top + 2 else s.top + 1
def turnS (s : Sto) (l : List ByteArray) (fs : List Flt) : Sto × Int :=
  if mayS s l fs = 0 then (if areaD s.xs < l.length ∨ 250 < nextG s then (Sto.zero, 5)
    else (⟨(turnW (nextG s) s.xs 0 l fs).1, if (turnW (nextG s) s.xs 0 l fs).2 = 0 then nextG s else s.gen, if (turnW (nextG s) s.xs 0 l fs).2 = 0 then l.length else s.used, nextG s, decide ((turnW (nextG s) s.xs 0 l fs).2 = 9)⟩, (turnW (nextG s) s.xs 0 l fs).2))
  else (Sto.zero, mayS s l fs)
theorem b4d (w : World) (o1 o2 o3 o4 : Obj) : ((((w.alloc o1).alloc o2).alloc o3).alloc o4).heap[w.heap.size + 1 + 1 + 1]? = some o4 := by
  have := blk_new (((w.alloc o1).alloc o2).alloc o3) o4
  rwa [size_alloc, size_alloc, size_alloc] at this
theorem b4c (w : World) (o1 o2 o3 o4 : Obj) : ((((w.alloc o1).alloc o2).alloc o3).alloc o4).heap[w.heap.size + 1 + 1]? = some o3 := by
  have := blk_alloc o4 (blk_new ((w.alloc o1).alloc o2) o3)
  rwa [size_alloc, size_alloc] at this
theorem b4b (w : World) (o1 o2 o3 o4 : Obj) : ((((w.alloc o1).alloc o2).alloc o3).alloc o4).heap[w.heap.size + 1]? = some o2 := by
  have := blk_alloc o4 (blk_alloc o3 (blk_new (w.alloc o1) o2))
  rwa [size_alloc] at this
theorem b4a (w : World) (o1 o2 o3 o4 : Obj) : ((((w.alloc o1).alloc o2).alloc o3).alloc o4).heap[w.heap.size]? = some o1 := blk_alloc o4 (blk_alloc o3 (blk_alloc o2 (blk_new w o1)))
theorem turn_bad (s : Sto) (v v1 v2 : Value) (l : List ByteArray) (fs : List Flt) (k : Int) (w : World) (hS : SlAt w v 1 s.xs.length (strs s.xs)) (h1 : SlAt w v1 1 l.length (strs l)) (h2 : SlAt w v2 2 fs.length (fltsC fs)) (hm : mayS s l fs = k) (hk : k ≠ 0) :
    Calls Try.prog 22 #[s.val v, v1, v2] w (StoRes Sto.zero k v w) := by
  have HM := Lib.hid (fun W (h : SlAt W v 1 s.xs.length (strs s.xs)) (h1 : SlAt W v1 1 l.length (strs l)) (h2 : SlAt W v2 2 fs.length (fltsC fs)) => by have := storeMay_any s v v1 v2 l fs W h h1 h2; rw [hm] at this; exact this)
  have HS := Lib.hid hS
  have H1 := Lib.hid h1
  have H2 := Lib.hid h2
  obtain ⟨xs, gen, used, top, down⟩ := s
  obtain ⟨a, c, rfl, _, _⟩ := hS.form
  obtain ⟨a1, c1, rfl, _, _⟩ := h1.form
  obtain ⟨a2, c2, rfl, _, _⟩ := h2.form
  have hne : (k != 0) = true := by simpa using hk
  clear hS hm hk h1 h2
  unfold Sto.val at *
  go_enter Try.func22, Try.ntmps22
  go_wp2_with (first
    | (go_at_call 47; refine (HM.out _ (HS.out.stay (bal (bal (bal (bal (Below.refl _ _) _) _) _) _)) (H1.out.stay (bal (bal (bal (bal (Below.refl _ _) _) _) _) _)) (H2.out.stay (bal (bal (bal (bal (Below.refl _ _) _) _) _) _))).mono ?_; rintro e w1 ⟨rfl, hb1⟩; have K4 := Lib.hid (blk_call hb1 (b4d w _ _ _ _)); have x0 := blk_cell K4.out (j := 0) rfl; have x1 := blk_cell K4.out (j := 1) rfl; have x2 := blk_cell K4.out (j := 2) rfl; have x3 := blk_cell K4.out (j := 3) rfl; have x4 := blk_cell K4.out (j := 4) rfl; have f0 := blk_free K4.out 0; have f1 := blk_free K4.out 1; have f2 := blk_free K4.out 2; have f3 := blk_free K4.out 3; have f4 := blk_free K4.out 4))
  have hw1 := bel (bal (bal (bal (bal (Below.refl w.heap.size w) _) _) _) _) hb1
  refine bodyPost_ret (v := .tuple #[Sto.zero.val (.slice none 0 0), .int .i64 k]) ?_ rfl ?_
  · simp [results, Try.results22, go_sem, Sto.val, Sto.zero, x0, x1, x2, x3, x4]
  · refine ⟨.slice none 0 0, rfl, .inr (FreshV.nil _ _ _), SlAt.nil _ _, ?_⟩
    exact bset (bset (bset (bset (bset hw1 (show w.heap.size ≤ w.heap.size + 1 + 1 + 1 by omega) _) (show w.heap.size ≤ w.heap.size + 1 + 1 + 1 by omega) _) (show w.heap.size ≤ w.heap.size + 1 + 1 + 1 by omega) _) (show w.heap.size ≤ w.heap.size + 1 + 1 + 1 by omega) _) (show w.heap.size ≤ w.heap.size + 1 + 1 + 1 by omega) _
end Go.Proofs.Ytopaddpclipnjaa
namespace Go.Proofs.Ytopaddpclipnjaa
open Go.RowKit Go.Proofs.YtopaddpclipnjaaW.PrintLast
set_option maxRecDepth 100000 in
set_option maxHeartbeats 8000000 in
theorem far_ne {b n : Nat} (h : b < n) (k : Nat) : b ≠ n + k := by omega
theorem add_ne (n j k : Nat) (h : j ≠ k) : n + j ≠ n + k := by omega
set_option maxRecDepth 100000 in
set_option maxHeartbeats 8000000 in
theorem turn_full (xs : List ByteArray) (gen used top G : Int) (down : Bool) (v v1 v2 : Value) (l : List ByteArray) (fs : List Flt) (w : World) (hS : SlAt w v 1 xs.length (strs xs)) (h1 : SlAt w v1 1 l.length (strs l)) (h2 : SlAt w v2 2 fs.length (fltsC fs)) (hm : mayS ⟨xs, gen, used, top, down⟩ l fs = 0)
    (g0 : 0 ≤ gen) (t0 : 0 ≤ top) (t1 : top ≤ 1000) (hG : ((top + 1) % 2 == gen % 2) = true ∧ G = top + 1 + 1 ∨ ((top + 1) % 2 == gen % 2) = false ∧ G = top + 1) (hL : areaD xs < l.length) :
    Calls Try.prog 22 #[.agg (SC v gen used top down), v1, v2] w (StoRes Sto.zero 5 v w) := by
  have HM := Lib.hid (fun W (h : SlAt W v 1 xs.length (strs xs)) (h1 : SlAt W v1 1 l.length (strs l)) (h2 : SlAt W v2 2 fs.length (fltsC fs)) => by have := storeMay_any ⟨xs, gen, used, top, down⟩ v v1 v2 l fs W h h1 h2; rw [hm] at this; exact this)
  have HS := Lib.hid hS
  have H1 := Lib.hid h1
  have H2 := Lib.hid h2
  obtain ⟨a, c, rfl, _, _⟩ := hS.form
  obtain ⟨a1, c1, rfl, _, _⟩ := h1.form
  obtain ⟨a2, c2, rfl, _, _⟩ := h2.form
  have HA := Lib.hid (fun W (h : SlAt W (Value.slice a xs.length c) 1 xs.length (strs xs)) => area_any _ xs W h)
  obtain ⟨A, hA⟩ : ∃ A, A = areaD xs := ⟨_, rfl⟩
  rw [← hA] at HA hL
  obtain ⟨e1, e2⟩ := small64 (top + 1) (by omega) (by omega)
  obtain ⟨e3, e4⟩ := small64 (top + 1 + 1) (by omega) (by omega)
  clear hS hm h1 h2 hA
  have hLb : decide (A < (l.length : Int)) = true := by simpa using hL
  clear hL
  unfold Sto.val at *
  rcases hG with ⟨hp, rfl⟩ | ⟨hp, rfl⟩
  all_goals
    go_enter Try.func22, Try.ntmps22
    go_wp2_with (first
      | (go_at_call 47; refine (HM.out _ (HS.out.stay (bal (bal (bal (bal (Below.refl _ _) _) _) _) _)) (H1.out.stay (bal (bal (bal (bal (Below.refl _ _) _) _) _) _)) (H2.out.stay (bal (bal (bal (bal (Below.refl _ _) _) _) _) _))).mono ?_; rintro e w1 ⟨rfl, hb1⟩; have K1 := Lib.hid (blk_call hb1 (b4a w _ _ _ _)); have K2 := Lib.hid (blk_call hb1 (b4b w _ _ _ _)); have K3 := Lib.hid (blk_call hb1 (b4c w _ _ _ _)); have K4 := Lib.hid (blk_call hb1 (b4d w _ _ _ _)); have c3 := blk_cell K1.out (j := 3) rfl; have y1 := fun o => blk_cell (blk_alloc o K1.out) (j := 1) rfl; have sz1 := hb1.size))
  all_goals
    have hw1 := bel (bal (bal (bal (bal (Below.refl w.heap.size w) _) _) _) _) hb1
  all_goals first | (have hz : ((top + 1) % 2 == gen % 2) = true := hp; generalize hgg : top + 1 + 1 = g at *) | (generalize hgg : top + 1 = g at *)
  all_goals
    have hd1 : SlAt (w1.alloc (.cells #[.int .i64 g] 3)).drew (Value.slice a xs.length c) 1 xs.length (strs xs) := HS.out.stay (bdn (bal hw1 _) 1)
    have B1 : Hid ((w1.alloc (.cells #[.int .i64 g] 3)).drew.heap[w.heap.size]? = _) := Lib.hid (blk_alloc _ K1.out)
    have B2 : Hid ((w1.alloc (.cells #[.int .i64 g] 3)).drew.heap[w.heap.size + 1]? = _) := Lib.hid (blk_alloc _ K2.out)
    have B3 : Hid ((w1.alloc (.cells #[.int .i64 g] 3)).drew.heap[w.heap.size + 1 + 1]? = _) := Lib.hid (blk_alloc _ K3.out)
    have B4 : Hid ((w1.alloc (.cells #[.int .i64 g] 3)).drew.heap[w.heap.size + 1 + 1 + 1]? = _) := Lib.hid (blk_alloc _ K4.out)
    have Bg : Hid ((w1.alloc (.cells #[.int .i64 g] 3)).drew.heap[w1.heap.size]? = _) := Lib.hid (blk_new w1 _)
    refine start_ (n := 10) (S := fun w' => w'.cell? ⟨w.heap.size + 1, 0, none⟩ = some (Value.slice a1 l.length c1) ∧ w'.cell? ⟨w.heap.size, 0, none⟩ = some (Value.slice a xs.length c) ∧ w'.cell? ⟨w1.heap.size, 0, none⟩ = some (.int .i64 g)) (ds := []) #[false, false, false, false, false, false, false, false, false, false] (by kernel_rfl) rfl rfl ⟨blk_cell B2.out (j := 0) rfl, blk_cell B1.out (j := 0) rfl, blk_cell Bg.out (j := 0) rfl⟩ (fun hHeld => ?_)
    refine take_ (i := 0) (N := some 31) (v := ?_) (a' := ?_) #[true, false, false, false, false, false, false, false, false, false] rfl rfl (by kernel_rfl) (fun _ _ _ h => h) (Or.inl ⟨by rfl, ?_⟩) hHeld ?_ ?_
    rotate_left
    · rintro w' ⟨s0, s1, s2⟩
      go_simp
      with_reducible rfl
    rotate_left
    · simp only [Act.put, List.setIfInBounds_toArray, List.set_cons_zero, List.set_cons_succ, i64_w, i32_w]
      rfl
    refine pure_ (i := 1) (N := some 32) (v := ?_) (a' := ?_) #[true, true, false, false, false, false, false, false, false, false] rfl rfl (by kernel_rfl) (fun _ _ _ h => h) (Or.inl ⟨by rfl, ?_⟩) ?_ ?_
    rotate_left
    · intro w'
      go_simp
      with_reducible rfl
    rotate_left
    · simp only [Act.put, List.setIfInBounds_toArray, List.set_cons_zero, List.set_cons_succ, i64_w, i32_w]
      rfl
    refine pure_ (i := 2) (N := some 33) (v := ?_) (a' := ?_) #[true, true, true, false, false, false, false, false, false, false] rfl rfl (by kernel_rfl) (fun _ _ _ h => h) (Or.inl ⟨by rfl, ?_⟩) ?_ ?_
    rotate_left
    · intro w'
      go_simp
      with_reducible rfl
    rotate_left
    · simp only [Act.put, List.setIfInBounds_toArray, List.set_cons_zero, List.set_cons_succ, i64_w, i32_w]
      rfl
    refine take_ (i := 3) (N := some 34) (v := ?_) (a' := ?_) #[true, true, true, true, false, false, false, false, false, false] rfl rfl (by kernel_rfl) (fun _ _ _ h => h) (Or.inl ⟨by rfl, ?_⟩) hHeld ?_ ?_
    rotate_left
    · rintro w' ⟨s0, s1, s2⟩
      go_simp
      with_reducible rfl
    rotate_left
    · simp only [Act.put, List.setIfInBounds_toArray, List.set_cons_zero, List.set_cons_succ, i64_w, i32_w]
      rfl
    refine one_ (i := 4) (N := some 35) #[true, true, true, true, true, false, false, false, false, false] rfl rfl (by kernel_rfl) (by decide) (fun K hK => ?_)
    refine goes_ Try.func37 (by kernel_rfl) rfl #[.agg #[.slice a xs.length c]] (by rfl) rfl rfl (by (try simp only [List.map_toArray, List.map_cons, List.map_nil]); first | done | rfl) ?_
    refine (HA.out _ hd1).mono ?_
    rintro e w2 ⟨rfl, hb2⟩
    refine ⟨_, rfl, ?_⟩
    have J1 := Lib.hid (blk_call hb2 B1.out)
    have J2 := Lib.hid (blk_call hb2 B2.out)
    have J3 := Lib.hid (blk_call hb2 B3.out)
    have J4 := Lib.hid (blk_call hb2 B4.out)
    have Jg := Lib.hid (blk_call hb2 Bg.out)
    refine hK.out _ _ ⟨blk_cell J2.out (j := 0) rfl, blk_cell J1.out (j := 0) rfl, blk_cell Jg.out (j := 0) rfl⟩ (fun hHeld => ?_)
    clear hK K
    refine norm_ (a' := ?_) ?_ ?_
    rotate_left
    · show Act.put _ (some 35) _ = _
      simp only [Act.put, List.setIfInBounds_toArray, List.set_cons_zero, List.set_cons_succ, i64_w, i32_w]
      rfl
    refine pure_ (i := 5) (N := some 36) (v := ?_) (a' := ?_) #[true, true, true, true, true, true, false, false, false, false] rfl rfl (by kernel_rfl) (fun _ _ _ h => h) (Or.inl ⟨by rfl, ?_⟩) ?_ ?_
    rotate_left
    · intro w'
      go_simp
      with_reducible rfl
    rotate_left
    · simp only [Act.put, List.setIfInBounds_toArray, List.set_cons_zero, List.set_cons_succ, i64_w, i32_w]
      rfl
    refine pure_ (i := 6) (N := some 37) (v := ?_) (a' := ?_) #[true, true, true, true, true, true, true, false, false, false] rfl rfl (by kernel_rfl) (fun _ _ _ h => h) (Or.inl ⟨by rfl, ?_⟩) ?_ ?_
    rotate_left
    · intro w'
      go_simp
      with_reducible rfl
    rotate_left
    · simp only [Act.put, List.setIfInBounds_toArray, List.set_cons_zero, List.set_cons_succ, i64_w, i32_w]
      rfl
    refine pure_ (i := 7) (N := some 38) (v := undef) (a' := ?_) #[true, true, true, true, true, true, true, true, false, false] rfl rfl (by kernel_rfl) (fun _ _ _ h => h) (Or.inr ⟨by rfl, rfl⟩) ?_ ?_
    rotate_left
    · simp only [Act.put, List.setIfInBounds_toArray, List.set_cons_zero, List.set_cons_succ, i64_w, i32_w]
      rfl
    refine pure_ (i := 8) (N := some 39) (v := undef) (a' := ?_) #[true, true, true, true, true, true, true, true, true, false] rfl rfl (by kernel_rfl) (fun _ _ _ h => h) (Or.inr ⟨by rfl, rfl⟩) ?_ ?_
    rotate_left
    · simp only [Act.put, List.setIfInBounds_toArray, List.set_cons_zero, List.set_cons_succ, i64_w, i32_w]
      rfl
    refine pure_ (i := 9) (N := some 40) (v := ?_) (a' := ?_) #[true, true, true, true, true, true, true, true, true, true] rfl rfl (by kernel_rfl) (fun _ _ _ h => h) (Or.inl ⟨by rfl, ?_⟩) ?_ ?_
    rotate_left
    · intro w'
      go_simp
      with_reducible rfl
    rotate_left
    · simp only [Act.put, List.setIfInBounds_toArray, List.set_cons_zero, List.set_cons_succ, i64_w, i32_w]
      rfl
    refine done_ (by kernel_rfl) ?_
    have x0 := blk_cell J4.out (j := 0) rfl
    have x1 := blk_cell J4.out (j := 1) rfl
    have x2 := blk_cell J4.out (j := 2) rfl
    have x3 := blk_cell J4.out (j := 3) rfl
    have x4 := blk_cell J4.out (j := 4) rfl
    have f0 := blk_free J4.out 0
    have f1 := blk_free J4.out 1
    have f2 := blk_free J4.out 2
    have f3 := blk_free J4.out 3
    have f4 := blk_free J4.out 4
    go_wp2
    have hw2 := bel (bdn (bal hw1 (.cells #[.int .i64 g] 3)) 1) hb2
    refine bodyPost_ret (v := .tuple #[Sto.zero.val (.slice none 0 0), .int .i64 5]) ?_ rfl ?_
    · simp [results, Try.results22, go_sem, Sto.val, Sto.zero, x0, x1, x2, x3, x4]
    · refine ⟨.slice none 0 0, rfl, .inr (FreshV.nil _ _ _), SlAt.nil _ _, ?_⟩
      exact bset (bset (bset (bset (bset hw2 (show w.heap.size ≤ w.heap.size + 1 + 1 + 1 by omega) _) (show w.heap.size ≤ w.heap.size + 1 + 1 + 1 by omega) _) (show w.heap.size ≤ w.heap.size + 1 + 1 + 1 by omega) _) (show w.heap.size ≤ w.heap.size + 1 + 1 + 1 by omega) _) (show w.heap.size ≤ w.heap.size + 1 + 1 + 1 by omega) _
set_option maxRecDepth 100000 in
set_option maxHeartbeats 8000000 in
theorem turn_full2 (xs : List ByteArray) (gen used top G : Int) (down : Bool) (v v1 v2 : Value) (l : List ByteArray) (fs : List Flt) (w : World) (hS : SlAt w v 1 xs.length (strs xs)) (h1 : SlAt w v1 1 l.length (strs l)) (h2 : SlAt w v2 2 fs.length (fltsC fs)) (hm : mayS ⟨xs, gen, used, top, down⟩ l fs = 0)
    (g0 : 0 ≤ gen) (t0 : 0 ≤ top) (t1 : top ≤ 1000) (hG : ((top + 1) % 2 == gen % 2) = true ∧ G = top + 1 + 1 ∨ ((top + 1) % 2 == gen % 2) = false ∧ G = top + 1) (hL : ¬ areaD xs < l.length) (hG2 : 250 < G) :
    Calls Try.prog 22 #[.agg (SC v gen used top down), v1, v2] w (StoRes Sto.zero 5 v w) := by
  have HM := Lib.hid (fun W (h : SlAt W v 1 xs.length (strs xs)) (h1 : SlAt W v1 1 l.length (strs l)) (h2 : SlAt W v2 2 fs.length (fltsC fs)) => by have := storeMay_any ⟨xs, gen, used, top, down⟩ v v1 v2 l fs W h h1 h2; rw [hm] at this; exact this)
  have HS := Lib.hid hS
  have H1 := Lib.hid h1
  have H2 := Lib.hid h2
  obtain ⟨a, c, rfl, _, _⟩ := hS.form
  obtain ⟨a1, c1, rfl, _, _⟩ := h1.form
  obtain ⟨a2, c2, rfl, _, _⟩ := h2.form
  have HA := Lib.hid (fun W (h : SlAt W (Value.slice a xs.length c) 1 xs.length (strs xs)) => area_any _ xs W h)
  obtain ⟨A, hA⟩ : ∃ A, A = areaD xs := ⟨_, rfl⟩
  rw [← hA] at HA hL
  obtain ⟨e1, e2⟩ := small64 (top + 1) (by omega) (by omega)
  obtain ⟨e3, e4⟩ := small64 (top + 1 + 1) (by omega) (by omega)
  clear hS hm h1 h2 hA
  have hLb : decide (A < (l.length : Int)) = false := by simpa using hL
  have hGb : decide (250 < G) = true := by simpa using hG2
  clear hL hG2
  unfold Sto.val at *
  rcases hG with ⟨hp, rfl⟩ | ⟨hp, rfl⟩
  all_goals
    go_enter Try.func22, Try.ntmps22
    go_wp2_with (first
      | (go_at_call 47; refine (HM.out _ (HS.out.stay (bal (bal (bal (bal (Below.refl _ _) _) _) _) _)) (H1.out.stay (bal (bal (bal (bal (Below.refl _ _) _) _) _) _)) (H2.out.stay (bal (bal (bal (bal (Below.refl _ _) _) _) _) _))).mono ?_; rintro e w1 ⟨rfl, hb1⟩; have K1 := Lib.hid (blk_call hb1 (b4a w _ _ _ _)); have K2 := Lib.hid (blk_call hb1 (b4b w _ _ _ _)); have K3 := Lib.hid (blk_call hb1 (b4c w _ _ _ _)); have K4 := Lib.hid (blk_call hb1 (b4d w _ _ _ _)); have c3 := blk_cell K1.out (j := 3) rfl; have y1 := fun o => blk_cell (blk_alloc o K1.out) (j := 1) rfl; have sz1 := hb1.size))
  all_goals
    have hw1 := bel (bal (bal (bal (bal (Below.refl w.heap.size w) _) _) _) _) hb1
  all_goals first | (have hz : ((top + 1) % 2 == gen % 2) = true := hp; generalize hgg : top + 1 + 1 = g at *) | (generalize hgg : top + 1 = g at *)
  all_goals
    have hd1 : SlAt (w1.alloc (.cells #[.int .i64 g] 3)).drew (Value.slice a xs.length c) 1 xs.length (strs xs) := HS.out.stay (bdn (bal hw1 _) 1)
    have B1 : Hid ((w1.alloc (.cells #[.int .i64 g] 3)).drew.heap[w.heap.size]? = _) := Lib.hid (blk_alloc _ K1.out)
    have B2 : Hid ((w1.alloc (.cells #[.int .i64 g] 3)).drew.heap[w.heap.size + 1]? = _) := Lib.hid (blk_alloc _ K2.out)
    have B3 : Hid ((w1.alloc (.cells #[.int .i64 g] 3)).drew.heap[w.heap.size + 1 + 1]? = _) := Lib.hid (blk_alloc _ K3.out)
    have B4 : Hid ((w1.alloc (.cells #[.int .i64 g] 3)).drew.heap[w.heap.size + 1 + 1 + 1]? = _) := Lib.hid (blk_alloc _ K4.out)
    have Bg : Hid ((w1.alloc (.cells #[.int .i64 g] 3)).drew.heap[w1.heap.size]? = _) := Lib.hid (blk_new w1 _)
    refine start_ (n := 10) (S := fun w' => w'.cell? ⟨w.heap.size + 1, 0, none⟩ = some (Value.slice a1 l.length c1) ∧ w'.cell? ⟨w.heap.size, 0, none⟩ = some (Value.slice a xs.length c) ∧ w'.cell? ⟨w1.heap.size, 0, none⟩ = some (.int .i64 g)) (ds := []) #[false, false, false, false, false, false, false, false, false, false] (by kernel_rfl) rfl rfl ⟨blk_cell B2.out (j := 0) rfl, blk_cell B1.out (j := 0) rfl, blk_cell Bg.out (j := 0) rfl⟩ (fun hHeld => ?_)
    refine take_ (i := 0) (N := some 31) (v := ?_) (a' := ?_) #[true, false, false, false, false, false, false, false, false, false] rfl rfl (by kernel_rfl) (fun _ _ _ h => h) (Or.inl ⟨by rfl, ?_⟩) hHeld ?_ ?_
    rotate_left
    · rintro w' ⟨s0, s1, s2⟩
      go_simp
      with_reducible rfl
    rotate_left
    · simp only [Act.put, List.setIfInBounds_toArray, List.set_cons_zero, List.set_cons_succ, i64_w, i32_w]
      rfl
    refine pure_ (i := 1) (N := some 32) (v := ?_) (a' := ?_) #[true, true, false, false, false, false, false, false, false, false] rfl rfl (by kernel_rfl) (fun _ _ _ h => h) (Or.inl ⟨by rfl, ?_⟩) ?_ ?_
    rotate_left
    · intro w'
      go_simp
      with_reducible rfl
    rotate_left
    · simp only [Act.put, List.setIfInBounds_toArray, List.set_cons_zero, List.set_cons_succ, i64_w, i32_w]
      rfl
    refine pure_ (i := 2) (N := some 33) (v := ?_) (a' := ?_) #[true, true, true, false, false, false, false, false, false, false] rfl rfl (by kernel_rfl) (fun _ _ _ h => h) (Or.inl ⟨by rfl, ?_⟩) ?_ ?_
    rotate_left
    · intro w'
      go_simp
      with_reducible rfl
    rotate_left
    · simp only [Act.put, List.setIfInBounds_toArray, List.set_cons_zero, List.set_cons_succ, i64_w, i32_w]
      rfl
    refine take_ (i := 3) (N := some 34) (v := ?_) (a' := ?_) #[true, true, true, true, false, false, false, false, false, false] rfl rfl (by kernel_rfl) (fun _ _ _ h => h) (Or.inl ⟨by rfl, ?_⟩) hHeld ?_ ?_
    rotate_left
    · rintro w' ⟨s0, s1, s2⟩
      go_simp
      with_reducible rfl
    rotate_left
    · simp only [Act.put, List.setIfInBounds_toArray, List.set_cons_zero, List.set_cons_succ, i64_w, i32_w]
      rfl
    refine one_ (i := 4) (N := some 35) #[true, true, true, true, true, false, false, false, false, false] rfl rfl (by kernel_rfl) (by decide) (fun K hK => ?_)
    refine goes_ Try.func37 (by kernel_rfl) rfl #[.agg #[.slice a xs.length c]] (by rfl) rfl rfl (by (try simp only [List.map_toArray, List.map_cons, List.map_nil]); first | done | rfl) ?_
    refine (HA.out _ hd1).mono ?_
    rintro e w2 ⟨rfl, hb2⟩
    refine ⟨_, rfl, ?_⟩
    have J1 := Lib.hid (blk_call hb2 B1.out)
    have J2 := Lib.hid (blk_call hb2 B2.out)
    have J3 := Lib.hid (blk_call hb2 B3.out)
    have J4 := Lib.hid (blk_call hb2 B4.out)
    have Jg := Lib.hid (blk_call hb2 Bg.out)
    refine hK.out _ _ ⟨blk_cell J2.out (j := 0) rfl, blk_cell J1.out (j := 0) rfl, blk_cell Jg.out (j := 0) rfl⟩ (fun hHeld => ?_)
    clear hK K
    refine norm_ (a' := ?_) ?_ ?_
    rotate_left
    · show Act.put _ (some 35) _ = _
      simp only [Act.put, List.setIfInBounds_toArray, List.set_cons_zero, List.set_cons_succ, i64_w, i32_w]
      rfl
    refine pure_ (i := 5) (N := some 36) (v := ?_) (a' := ?_) #[true, true, true, true, true, true, false, false, false, false] rfl rfl (by kernel_rfl) (fun _ _ _ h => h) (Or.inl ⟨by rfl, ?_⟩) ?_ ?_
    rotate_left
    · intro w'
      go_simp
      with_reducible rfl
    rotate_left
    · simp only [Act.put, List.setIfInBounds_toArray, List.set_cons_zero, List.set_cons_succ, i64_w, i32_w]
      rfl
    refine pure_ (i := 6) (N := some 37) (v := ?_) (a' := ?_) #[true, true, true, true, true, true, true, false, false, false] rfl rfl (by kernel_rfl) (fun _ _ _ h => h) (Or.inl ⟨by rfl, ?_⟩) ?_ ?_
    rotate_left
    · intro w'
      go_simp
      with_reducible rfl
    rotate_left
    · simp only [Act.put, List.setIfInBounds_toArray, List.set_cons_zero, List.set_cons_succ, i64_w, i32_w]
      rfl
    refine take_ (i := 7) (N := some 38) (v := ?_) (a' := ?_) #[true, true, true, true, true, true, true, true, false, false] rfl rfl (by kernel_rfl) (fun _ _ _ h => h) (Or.inl ⟨by rfl, ?_⟩) hHeld ?_ ?_
    rotate_left
    · rintro w' ⟨s0, s1, s2⟩
      go_simp
      with_reducible rfl
    rotate_left
    · simp only [Act.put, List.setIfInBounds_toArray, List.set_cons_zero, List.set_cons_succ, i64_w, i32_w]
      rfl
    refine pure_ (i := 8) (N := some 39) (v := ?_) (a' := ?_) #[true, true, true, true, true, true, true, true, true, false] rfl rfl (by kernel_rfl) (fun _ _ _ h => h) (Or.inl ⟨by rfl, ?_⟩) ?_ ?_
    rotate_left
    · intro w'
      go_simp
      with_reducible rfl
    rotate_left
    · simp only [Act.put, List.setIfInBounds_toArray, List.set_cons_zero, List.set_cons_succ, i64_w, i32_w]
      rfl
    refine pure_ (i := 9) (N := some 40) (v := ?_) (a' := ?_) #[true, true, true, true, true, true, true, true, true, true] rfl rfl (by kernel_rfl) (fun _ _ _ h => h) (Or.inl ⟨by rfl, ?_⟩) ?_ ?_
    rotate_left
    · intro w'
      go_simp
      with_reducible rfl
    rotate_left
    · simp only [Act.put, List.setIfInBounds_toArray, List.set_cons_zero, List.set_cons_succ, i64_w, i32_w]
      rfl
    refine done_ (by kernel_rfl) ?_
    have x0 := blk_cell J4.out (j := 0) rfl
    have x1 := blk_cell J4.out (j := 1) rfl
    have x2 := blk_cell J4.out (j := 2) rfl
    have x3 := blk_cell J4.out (j := 3) rfl
    have x4 := blk_cell J4.out (j := 4) rfl
    have f0 := blk_free J4.out 0
    have f1 := blk_free J4.out 1
    have f2 := blk_free J4.out 2
    have f3 := blk_free J4.out 3
    have f4 := blk_free J4.out 4
    go_wp2
    have hw2 := bel (bdn (bal hw1 (.cells #[.int .i64 g] 3)) 1) hb2
    refine bodyPost_ret (v := .tuple #[Sto.zero.val (.slice none 0 0), .int .i64 5]) ?_ rfl ?_
    · simp [results, Try.results22, go_sem, Sto.val, Sto.zero, x0, x1, x2, x3, x4]
    · refine ⟨.slice none 0 0, rfl, .inr (FreshV.nil _ _ _), SlAt.nil _ _, ?_⟩
      exact bset (bset (bset (bset (bset hw2 (show w.heap.size ≤ w.heap.size + 1 + 1 + 1 by omega) _) (show w.heap.size ≤ w.heap.size + 1 + 1 + 1 by omega) _) (show w.heap.size ≤ w.heap.size + 1 + 1 + 1 by omega) _) (show w.heap.size ≤ w.heap.size + 1 + 1 + 1 by omega) _) (show w.heap.size ≤ w.heap.size + 1 + 1 + 1 by omega) _
set_option maxRecDepth 100000 in
set_option maxHeartbeats 8000000 in
theorem turn_go (xs : List ByteArray) (gen used top G : Int) (v v1 v2 : Value) (l : List ByteArray) (fs : List Flt) (w : World) (hS : SlAt w v 1 xs.length (strs xs)) (h1 : SlAt w v1 1 l.length (strs l)) (h2 : SlAt w v2 2 fs.length (fltsC fs)) (hm : mayS ⟨xs, gen, used, top, false⟩ l fs = 0)
    (g0 : 0 ≤ gen) (t0 : 0 ≤ top) (t1 : top ≤ 1000) (hG : ((top + 1) % 2 == gen % 2) = true ∧ G = top + 1 + 1 ∨ ((top + 1) % 2 == gen % 2) = false ∧ G = top + 1) (hL : ¬ areaD xs < l.length) (hG2 : ¬ 250 < G) (hx : xs.length ≤ 1000) (hx0 : 0 < xs.length) (hl : l.length ≤ 900) (g1 : G ≤ 1000) :
    Calls Try.prog 22 #[.agg (SC v gen used top false), v1, v2] w (StoRes ⟨(turnW G xs 0 l fs).1, if (turnW G xs 0 l fs).2 = 0 then G else gen, if (turnW G xs 0 l fs).2 = 0 then l.length else used, G, decide ((turnW G xs 0 l fs).2 = 9)⟩ (turnW G xs 0 l fs).2 v w) := by
  have HM := Lib.hid (fun W (h : SlAt W v 1 xs.length (strs xs)) (h1 : SlAt W v1 1 l.length (strs l)) (h2 : SlAt W v2 2 fs.length (fltsC fs)) => by have := storeMay_any ⟨xs, gen, used, top, false⟩ v v1 v2 l fs W h h1 h2; rw [hm] at this; exact this)
  have HS := Lib.hid hS
  have H1 := Lib.hid h1
  have H2 := Lib.hid h2
  have hT : ∀ G' : Int, G' = G → ∀ (gs gF gl gg gn : Nat) (W : World), TS gs gF gl gg gn v v2 v1 xs l fs gen used G' G' W → Calls Try.prog 48 #[.func (.func 52) #[] #[.pointer (some ⟨gl, 0, none⟩), .pointer (some ⟨gs, 0, none⟩), .pointer (some ⟨gg, 0, none⟩), .pointer (some ⟨gn, 0, none⟩)]] W fun e w' =>
      ∃ v', e = .returned (.int .i64 (turnW G xs 0 l fs).2) ∧ w'.heap[gs]? = some (.cells (SC v' (if (turnW G xs 0 l fs).2 = 0 then G else gen) (if (turnW G xs 0 l fs).2 = 0 then l.length else used) G (decide ((turnW G xs 0 l fs).2 = 9))) 26 (0, 0)) ∧ SlAt w' v' 1 (turnW G xs 0 l fs).1.length (strs (turnW G xs 0 l fs).1) ∧ (v' = v ∨ FreshV W.heap.size v') ∧ G2 gs gF W w' := by
    intro G' hG' gs gF gl gg gn W hTS
    subst hG'
    exact tstop_any gs gF gl gg gn v v2 v1 xs l fs gen used G' G' W hTS hx hx0 (by omega) g1 hl
  obtain ⟨R, hR⟩ : ∃ R, R = turnW G xs 0 l fs := ⟨_, rfl⟩
  rw [← hR] at hT ⊢
  obtain ⟨n1, hn1⟩ : ∃ n1, n1 = (if R.2 = 0 then G else gen) := ⟨_, rfl⟩
  obtain ⟨n2, hn2⟩ : ∃ n2, n2 = (if R.2 = 0 then (l.length : Int) else used) := ⟨_, rfl⟩
  obtain ⟨n3, hn3⟩ : ∃ n3, n3 = decide (R.2 = 9) := ⟨_, rfl⟩
  rw [← hn1, ← hn2, ← hn3] at hT ⊢
  obtain ⟨ys, k⟩ := R
  simp only at hT ⊢
  clear hR hn1 hn2 hn3
  have HT := Lib.hid hT
  clear hT
  have hmf : ∀ (fn : Fn) (first cap : Array Value) (w : World), (Instr.makeFunc fn first cap).run Try.prog w = .ok (.func fn first cap) w := fun _ _ _ _ => rfl
  obtain ⟨a, c, rfl, _, _⟩ := hS.form
  obtain ⟨a1, c1, rfl, _, _⟩ := h1.form
  obtain ⟨a2, c2, rfl, _, _⟩ := h2.form
  have HA := Lib.hid (fun W (h : SlAt W (Value.slice a xs.length c) 1 xs.length (strs xs)) => area_any _ xs W h)
  obtain ⟨A, hA⟩ : ∃ A, A = areaD xs := ⟨_, rfl⟩
  rw [← hA] at HA hL
  obtain ⟨e1, e2⟩ := small64 (top + 1) (by omega) (by omega)
  obtain ⟨e3, e4⟩ := small64 (top + 1 + 1) (by omega) (by omega)
  clear hS hm h1 h2 hA
  have hLb : decide (A < (l.length : Int)) = false := by simpa using hL
  have hGb : decide (250 < G) = false := by simpa using hG2
  clear hL hG2
  unfold Sto.val at *
  rcases hG with ⟨hp, rfl⟩ | ⟨hp, rfl⟩
  all_goals
    go_enter Try.func22, Try.ntmps22
    go_wp2_with (first
      | (go_at_call 47; refine (HM.out _ (HS.out.stay (bal (bal (bal (bal (Below.refl _ _) _) _) _) _)) (H1.out.stay (bal (bal (bal (bal (Below.refl _ _) _) _) _) _)) (H2.out.stay (bal (bal (bal (bal (Below.refl _ _) _) _) _) _))).mono ?_; rintro e w1 ⟨rfl, hb1⟩; have K1 := Lib.hid (blk_call hb1 (b4a w _ _ _ _)); have K2 := Lib.hid (blk_call hb1 (b4b w _ _ _ _)); have K3 := Lib.hid (blk_call hb1 (b4c w _ _ _ _)); have K4 := Lib.hid (blk_call hb1 (b4d w _ _ _ _)); have c3 := blk_cell K1.out (j := 3) rfl; have y1 := fun o => blk_cell (blk_alloc o K1.out) (j := 1) rfl; have sz1 := hb1.size))
  all_goals
    have hw1 := bel (bal (bal (bal (bal (Below.refl w.heap.size w) _) _) _) _) hb1
  all_goals first | (have hz : ((top + 1) % 2 == gen % 2) = true := hp; generalize hgg : top + 1 + 1 = g at *) | (generalize hgg : top + 1 = g at *)
  all_goals
    have hd1 : SlAt (w1.alloc (.cells #[.int .i64 g] 3)).drew (Value.slice a xs.length c) 1 xs.length (strs xs) := HS.out.stay (bdn (bal hw1 _) 1)
    have B1 : Hid ((w1.alloc (.cells #[.int .i64 g] 3)).drew.heap[w.heap.size]? = _) := Lib.hid (blk_alloc _ K1.out)
    have B2 : Hid ((w1.alloc (.cells #[.int .i64 g] 3)).drew.heap[w.heap.size + 1]? = _) := Lib.hid (blk_alloc _ K2.out)
    have B3 : Hid ((w1.alloc (.cells #[.int .i64 g] 3)).drew.heap[w.heap.size + 1 + 1]? = _) := Lib.hid (blk_alloc _ K3.out)
    have B4 : Hid ((w1.alloc (.cells #[.int .i64 g] 3)).drew.heap[w.heap.size + 1 + 1 + 1]? = _) := Lib.hid (blk_alloc _ K4.out)
    have Bg : Hid ((w1.alloc (.cells #[.int .i64 g] 3)).drew.heap[w1.heap.size]? = _) := Lib.hid (blk_new w1 _)
    refine start_ (n := 10) (S := fun w' => w'.cell? ⟨w.heap.size + 1, 0, none⟩ = some (Value.slice a1 l.length c1) ∧ w'.cell? ⟨w.heap.size, 0, none⟩ = some (Value.slice a xs.length c) ∧ w'.cell? ⟨w1.heap.size, 0, none⟩ = some (.int .i64 g)) (ds := []) #[false, false, false, false, false, false, false, false, false, false] (by kernel_rfl) rfl rfl ⟨blk_cell B2.out (j := 0) rfl, blk_cell B1.out (j := 0) rfl, blk_cell Bg.out (j := 0) rfl⟩ (fun hHeld => ?_)
    refine take_ (i := 0) (N := some 31) (v := ?_) (a' := ?_) #[true, false, false, false, false, false, false, false, false, false] rfl rfl (by kernel_rfl) (fun _ _ _ h => h) (Or.inl ⟨by rfl, ?_⟩) hHeld ?_ ?_
    rotate_left
    · rintro w' ⟨s0, s1, s2⟩
      go_simp
      with_reducible rfl
    rotate_left
    · simp only [Act.put, List.setIfInBounds_toArray, List.set_cons_zero, List.set_cons_succ, i64_w, i32_w]
      rfl
    refine pure_ (i := 1) (N := some 32) (v := ?_) (a' := ?_) #[true, true, false, false, false, false, false, false, false, false] rfl rfl (by kernel_rfl) (fun _ _ _ h => h) (Or.inl ⟨by rfl, ?_⟩) ?_ ?_
    rotate_left
    · intro w'
      go_simp
      with_reducible rfl
    rotate_left
    · simp only [Act.put, List.setIfInBounds_toArray, List.set_cons_zero, List.set_cons_succ, i64_w, i32_w]
      rfl
    refine pure_ (i := 2) (N := some 33) (v := ?_) (a' := ?_) #[true, true, true, false, false, false, false, false, false, false] rfl rfl (by kernel_rfl) (fun _ _ _ h => h) (Or.inl ⟨by rfl, ?_⟩) ?_ ?_
    rotate_left
    · intro w'
      go_simp
      with_reducible rfl
    rotate_left
    · simp only [Act.put, List.setIfInBounds_toArray, List.set_cons_zero, List.set_cons_succ, i64_w, i32_w]
      rfl
    refine take_ (i := 3) (N := some 34) (v := ?_) (a' := ?_) #[true, true, true, true, false, false, false, false, false, false] rfl rfl (by kernel_rfl) (fun _ _ _ h => h) (Or.inl ⟨by rfl, ?_⟩) hHeld ?_ ?_
    rotate_left
    · rintro w' ⟨s0, s1, s2⟩
      go_simp
      with_reducible rfl
    rotate_left
    · simp only [Act.put, List.setIfInBounds_toArray, List.set_cons_zero, List.set_cons_succ, i64_w, i32_w]
      rfl
    refine one_ (i := 4) (N := some 35) #[true, true, true, true, true, false, false, false, false, false] rfl rfl (by kernel_rfl) (by decide) (fun K hK => ?_)
    refine goes_ Try.func37 (by kernel_rfl) rfl #[.agg #[.slice a xs.length c]] (by rfl) rfl rfl (by (try simp only [List.map_toArray, List.map_cons, List.map_nil]); first | done | rfl) ?_
    refine (HA.out _ hd1).mono ?_
    rintro e w2 ⟨rfl, hb2⟩
    refine ⟨_, rfl, ?_⟩
    have J1 := Lib.hid (blk_call hb2 B1.out)
    have J2 := Lib.hid (blk_call hb2 B2.out)
    have J3 := Lib.hid (blk_call hb2 B3.out)
    have J4 := Lib.hid (blk_call hb2 B4.out)
    have Jg := Lib.hid (blk_call hb2 Bg.out)
    refine hK.out _ _ ⟨blk_cell J2.out (j := 0) rfl, blk_cell J1.out (j := 0) rfl, blk_cell Jg.out (j := 0) rfl⟩ (fun hHeld => ?_)
    clear hK K
    refine norm_ (a' := ?_) ?_ ?_
    rotate_left
    · show Act.put _ (some 35) _ = _
      simp only [Act.put, List.setIfInBounds_toArray, List.set_cons_zero, List.set_cons_succ, i64_w, i32_w]
      rfl
    refine pure_ (i := 5) (N := some 36) (v := ?_) (a' := ?_) #[true, true, true, true, true, true, false, false, false, false] rfl rfl (by kernel_rfl) (fun _ _ _ h => h) (Or.inl ⟨by rfl, ?_⟩) ?_ ?_
    rotate_left
    · intro w'
      go_simp
      with_reducible rfl
    rotate_left
    · simp only [Act.put, List.setIfInBounds_toArray, List.set_cons_zero, List.set_cons_succ, i64_w, i32_w]
      rfl
    refine pure_ (i := 6) (N := some 37) (v := ?_) (a' := ?_) #[true, true, true, true, true, true, true, false, false, false] rfl rfl (by kernel_rfl) (fun _ _ _ h => h) (Or.inl ⟨by rfl, ?_⟩) ?_ ?_
    rotate_left
    · intro w'
      go_simp
      with_reducible rfl
    rotate_left
    · simp only [Act.put, List.setIfInBounds_toArray, List.set_cons_zero, List.set_cons_succ, i64_w, i32_w]
      rfl
    refine take_ (i := 7) (N := some 38) (v := ?_) (a' := ?_) #[true, true, true, true, true, true, true, true, false, false] rfl rfl (by kernel_rfl) (fun _ _ _ h => h) (Or.inl ⟨by rfl, ?_⟩) hHeld ?_ ?_
    rotate_left
    · rintro w' ⟨s0, s1, s2⟩
      go_simp
      with_reducible rfl
    rotate_left
    · simp only [Act.put, List.setIfInBounds_toArray, List.set_cons_zero, List.set_cons_succ, i64_w, i32_w]
      rfl
    refine pure_ (i := 8) (N := some 39) (v := ?_) (a' := ?_) #[true, true, true, true, true, true, true, true, true, false] rfl rfl (by kernel_rfl) (fun _ _ _ h => h) (Or.inl ⟨by rfl, ?_⟩) ?_ ?_
    rotate_left
    · intro w'
      go_simp
      with_reducible rfl
    rotate_left
    · simp only [Act.put, List.setIfInBounds_toArray, List.set_cons_zero, List.set_cons_succ, i64_w, i32_w]
      rfl
    refine pure_ (i := 9) (N := some 40) (v := ?_) (a' := ?_) #[true, true, true, true, true, true, true, true, true, true] rfl rfl (by kernel_rfl) (fun _ _ _ h => h) (Or.inl ⟨by rfl, ?_⟩) ?_ ?_
    rotate_left
    · intro w'
      go_simp
      with_reducible rfl
    rotate_left
    · simp only [Act.put, List.setIfInBounds_toArray, List.set_cons_zero, List.set_cons_succ, i64_w, i32_w]
      rfl
    refine done_ (by kernel_rfl) ?_
    have k3 := blk_cell J1.out (j := 3) rfl
    have z3 := blk_free J1.out 3
    have y5 := blk_cell Jg.out (j := 0) rfl
    have hw2 := bel (bdn (bal hw1 (.cells #[.int .i64 g] 3)) 1) hb2
    have e5 : w.heap.size + 1 + 1 + 1 < w1.heap.size := blk_lt K4.out
    have e6 : w1.heap.size < w2.heap.size := blk_lt Jg.out
    have hg2 : G2 w.heap.size (w.heap.size + 1 + 1) w2 ((w2.setCell ⟨w.heap.size, 3, none⟩ (.int .i64 g)).alloc (.cells #[.func (.func 51) #[] #[.pointer (some ⟨w.heap.size + 1 + 1, 0, none⟩)]] 81)) := (G2.left (gr_set4 (World.grownBy.refl w2 (some w.heap.size)) _)).trans (G2.below (bal (Below.refl _ _) _))
    have TSH : TS w.heap.size (w.heap.size + 1 + 1) (w.heap.size + 1) w1.heap.size w2.heap.size (.slice a xs.length c) (.slice a2 fs.length c2) (.slice a1 l.length c1) xs l fs gen used g g ((w2.setCell ⟨w.heap.size, 3, none⟩ (.int .i64 g)).alloc (.cells #[.func (.func 51) #[] #[.pointer (some ⟨w.heap.size + 1 + 1, 0, none⟩)]] 81)) := by
      refine ⟨blk_alloc _ (blk_set J1.out 3 _), (HS.out.stay hw2).grown hg2 (fun h b hb => ?_) (fun h b hb => ?_), fun b hb => ?_, fun b hb => ?_, blk_alloc _ (blk_set_far J3.out ?_ _), (H2.out.stay hw2).grown hg2 (fun h b hb => ?_) (fun h b hb => ?_), fun h b hb => ?_, fun h b hb => ?_, blk_alloc _ (blk_set_far J2.out ?_ _), (H1.out.stay hw2).grown hg2 (fun h b hb => ?_) (fun h b hb => ?_), fun h b hb => ?_, fun h b hb => ?_, blk_alloc _ (blk_set_far Jg.out ?_ _), ?_, ?_, ⟨?_, ?_⟩, ⟨?_, ?_⟩, ⟨?_, ?_⟩⟩
      · exact far_ne (slat_far HS.out h hb) 0
      · exact far_ne (slat_far HS.out h hb) 2
      · exact far_ne (slat_far HS.out hx0 hb) 0
      · exact far_ne (slat_far HS.out hx0 hb) 2
      · exact add_ne w.heap.size 2 0 (by decide)
      · exact far_ne (slat_far H2.out h hb) 0
      · exact far_ne (slat_far H2.out h hb) 2
      · exact far_ne (slat_far H2.out h hb) 2
      · exact far_ne (slat_far H2.out h hb) 0
      · exact add_ne w.heap.size 1 0 (by decide)
      · exact far_ne (slat_far H1.out h hb) 0
      · exact far_ne (slat_far H1.out h hb) 2
      · exact far_ne (slat_far H1.out h hb) 0
      · exact far_ne (slat_far H1.out h hb) 2
      · show w1.heap.size ≠ w.heap.size; omega
      · have := blk_new (w2.setCell ⟨w.heap.size, 3, none⟩ (.int .i64 g)) (.cells #[.func (.func 51) #[] #[.pointer (some ⟨w.heap.size + 1 + 1, 0, none⟩)]] 81)
        rwa [size_set] at this
      · omega
      · omega
      · omega
      · omega
      · omega
      · omega
      · omega
    have hsW : ((w2.setCell ⟨w.heap.size, 3, none⟩ (.int .i64 g)).alloc (.cells #[.func (.func 51) #[] #[.pointer (some ⟨w.heap.size + 1 + 1, 0, none⟩)]] 81)).heap.size = w2.heap.size + 1 := by rw [size_alloc, size_set]
    have TSI := Lib.hid TSH
    have X := Lib.hid (show ((w2.setCell ⟨w.heap.size, 3, none⟩ (.int .i64 g)).alloc (.cells #[.func (.func 51) #[] #[.pointer (some ⟨w.heap.size + 1 + 1, 0, none⟩)]] 81)).heap[w.heap.size + 1 + 1 + 1]? = _ from blk_alloc _ (blk_set_far J4.out (show w.heap.size + 1 + 1 + 1 ≠ w.heap.size by omega) _))
    have hWB : Below w.heap.size w ((w2.setCell ⟨w.heap.size, 3, none⟩ (.int .i64 g)).alloc (.cells #[.func (.func 51) #[] #[.pointer (some ⟨w.heap.size + 1 + 1, 0, none⟩)]] 81)) := bal (bset hw2 (p := ⟨w.heap.size, 3, none⟩) (Nat.le_refl _) _) _
    clear TSH
    go_wp2_with (go_at_call 48; refine (HT.out g rfl _ _ _ _ _ _ TSI.out).mono ?_; rintro e w3 ⟨v3, rfl, hB3, hS3, hF3, hG3⟩; obtain ⟨a3, c3, rfl, _, _⟩ := hS3.form; have B3 := Lib.hid hB3; have X4 := Lib.hid ((hG3.block (w.heap.size + 1 + 1 + 1) (blk_lt X.out) (by omega) (by omega)).trans X.out); have q0 : w3.cell? ⟨w.heap.size, 0, none⟩ = some (Value.slice a3 ys.length c3) := blk_cell B3.out (j := 0) rfl; have q1 : w3.cell? ⟨w.heap.size, 1, none⟩ = some (Value.int .i64 n1) := blk_cell B3.out (j := 1) rfl; have q2 : w3.cell? ⟨w.heap.size, 2, none⟩ = some (Value.int .i64 n2) := blk_cell B3.out (j := 2) rfl; have q3 : w3.cell? ⟨w.heap.size, 3, none⟩ = some (Value.int .i64 g) := blk_cell B3.out (j := 3) rfl; have q4 : w3.cell? ⟨w.heap.size, 4, none⟩ = some (Value.bool n3) := blk_cell B3.out (j := 4) rfl; have x0 := blk_cell X4.out (j := 0) rfl; have x1 := blk_cell X4.out (j := 1) rfl; have x2 := blk_cell X4.out (j := 2) rfl; have x3 := blk_cell X4.out (j := 3) rfl; have x4 := blk_cell X4.out (j := 4) rfl; have f0 := blk_free X4.out 0; have f1 := blk_free X4.out 1; have f2 := blk_free X4.out 2; have f3 := blk_free X4.out 3; have f4 := blk_free X4.out 4; clear hB3)
    have hw3 : Below w.heap.size w w3 := ⟨hG3.os.trans hWB.os, hG3.tape.trans hWB.tape, hG3.output.trans hWB.output, Nat.le_trans hWB.size hG3.size, fun i hi => (hG3.block i (Nat.lt_of_lt_of_le hi hWB.size) (by omega) (by omega)).trans (hWB.block i hi)⟩
    have hb4 := (bset (bset (bset (bset (bset hw3 (show w.heap.size ≤ w.heap.size + 1 + 1 + 1 by omega) (.slice a3 ys.length c3) (p := ⟨w.heap.size + 1 + 1 + 1, 0, none⟩)) (show w.heap.size ≤ w.heap.size + 1 + 1 + 1 by omega) (.int .i64 n1) (p := ⟨w.heap.size + 1 + 1 + 1, 1, none⟩)) (show w.heap.size ≤ w.heap.size + 1 + 1 + 1 by omega) (.int .i64 n2) (p := ⟨w.heap.size + 1 + 1 + 1, 2, none⟩)) (show w.heap.size ≤ w.heap.size + 1 + 1 + 1 by omega) (.int .i64 g) (p := ⟨w.heap.size + 1 + 1 + 1, 3, none⟩)) (show w.heap.size ≤ w.heap.size + 1 + 1 + 1 by omega) (.bool n3) (p := ⟨w.heap.size + 1 + 1 + 1, 4, none⟩))
    refine bodyPost_ret (v := .tuple #[.agg (SC (.slice a3 ys.length c3) n1 n2 g n3), .int .i64 k]) ?_ rfl ?_
    · simp [results, Try.results22, go_sem, x0, x1, x2, x3, x4]
    · have hd : ∀ b, (Value.slice a3 ys.length c3).ownBlock = some b → b ≠ w.heap.size + 1 + 1 + 1 := fun b hb => hF3.elim (fun h => by rw [h] at hb; exact far_ne (slat_far HS.out hx0 hb) 3) (fun h => by have := h b hb; omega)
      exact ⟨.slice a3 ys.length c3, rfl, hF3.imp id (fun h => h.mono hWB.size), (((((hS3.store (p := ⟨w.heap.size + 1 + 1 + 1, 0, none⟩) hd _).store (p := ⟨w.heap.size + 1 + 1 + 1, 1, none⟩) hd _).store (p := ⟨w.heap.size + 1 + 1 + 1, 2, none⟩) hd _).store (p := ⟨w.heap.size + 1 + 1 + 1, 3, none⟩) hd _).store (p := ⟨w.heap.size + 1 + 1 + 1, 4, none⟩) hd _), hb4⟩
end Go.Proofs.Ytopaddpclipnjaa
namespace Go.Proofs.Ytopaddpclipnjaa
open Go.RowKit
theorem nextG_par (s : Sto) : ((s.top + 1) % 2 == s.gen % 2) = true ∧ nextG s = s.top + 1 + 1 ∨ ((s.top + 1) % 2 == s.gen % 2) = false ∧ nextG s = s.top + 1 := by
  unfold nextG
  by_cases h : (s.top + 1) % 2 = s.gen % 2
  · left
    rw [if_pos h]
    exact ⟨by simpa using h, by omega⟩
  · right
    rw [if_neg h]
    exact ⟨by simpa using h, rfl⟩
theorem turn_any (s : Sto) (v v1 v2 : Value) (l : List ByteArray) (fs : List Flt) (w : World) (hS : SlAt w v 1 s.xs.length (strs s.xs)) (h1 : SlAt w v1 1 l.length (strs l)) (h2 : SlAt w v2 2 fs.length (fltsC fs)) :
    Calls Try.prog 22 #[s.val v, v1, v2] w (StoRes (turnS s l fs).1 (turnS s l fs).2 v w) := by
  unfold turnS
  by_cases hm : mayS s l fs = 0
  · rw [if_pos hm]
    obtain ⟨hok, _, _, hdn⟩ := mayS_ok hm
    obtain ⟨_, g1, g2, u1, u2, t1, t2, l1, l2⟩ := okB_nums hok
    have hG := nextG_par s
    have hGb : nextG s ≤ s.top + 2 := by rcases hG with ⟨_, h⟩ | ⟨_, h⟩ <;> omega
    have ha : areaD s.xs ≤ 900 := by unfold areaD; omega
    by_cases hA : areaD s.xs < l.length
    · rw [if_pos (.inl hA)]
      exact turn_full s.xs s.gen s.used s.top (nextG s) s.down v v1 v2 l fs w hS h1 h2 hm (by omega) (by omega) (by omega) hG hA
    · by_cases hB : 250 < nextG s
      · rw [if_pos (.inr hB)]
        exact turn_full2 s.xs s.gen s.used s.top (nextG s) s.down v v1 v2 l fs w hS h1 h2 hm (by omega) (by omega) (by omega) hG hA hB
      · rw [if_neg (by simp only [not_or]; exact ⟨hA, hB⟩)]
        obtain ⟨xs, gen, used, top, down⟩ := s
        simp only at hdn
        subst hdn
        exact turn_go xs gen used top (nextG ⟨xs, gen, used, top, false⟩) v v1 v2 l fs w hS h1 h2 hm (by simp only at *; omega) (by simp only at *; omega) (by simp only at *; omega) hG hA hB (by simp only at *; omega) (by simp only at *; omega) (by simp only at *; omega) (by omega)
  · rw [if_neg hm]
    exact turn_bad s v v1 v2 l fs _ w hS h1 h2 rfl hm
end Go.Proofs.Ytopaddpclipnjaa
namespace Go.Proofs.YtopaddpclipnjaaQ.P
open Go.RowKit Go.Proofs.YtopaddpclipnjaaW.PrintWords Go.Proofs.Ytopaddpclipnjaa
def stoOut (r : Sto × Int) : Option (List ByteArray × Int × Int × Int × Bool × Int) := some (r.1.xs, r.1.gen, r.1.used, r.1.top, r.1.down, r.2)
theorem sto_res {w : World} {A0_0 : Option Addr} {c0_0 : Nat} {l0_0 : List ByteArray} {P0_0_ : Nat → Prop} {s : Sto} {k : Int} {e : Ending} {w' : World} (hs0_0 : Kd.V Kd.string 9 w w.heap.size (fun k_ => P0_0_ k_) (.slice A0_0 l0_0.length c0_0) l0_0) (hl : (s.val (.slice A0_0 l0_0.length c0_0)) = s.val (.slice A0_0 l0_0.length c0_0)) {r1 : List ByteArray} {r2 r3 r4 : Int} {r5 : Bool} {r6 : Int} (h : stoOut (s, k) = some (r1, r2, r3, r4, r5, r6))
    (hsame : ∀ v', v' = .slice A0_0 l0_0.length c0_0 → SlAt w' v' 1 s.xs.length (strs s.xs) → s.xs = l0_0) (hr : StoRes s k (.slice A0_0 l0_0.length c0_0) w e w') :
    ∃ v0_ : Value, e = .returned (.tuple #[.agg #[v0_, .int .i64 r2, .int .i64 r3, .int .i64 r4, .bool r5], .int .i64 r6]) ∧ Kd.V Kd.string 9 w' w.heap.size (fun k_ => (P0_0_ k_ ∨ w.heap.size ≤ k_)) v0_ r1 ∧ Below w.heap.size w w' := by
  unfold stoOut at h
  simp only [Option.some.injEq, Prod.mk.injEq] at h
  obtain ⟨rfl, rfl, rfl, rfl, rfl, rfl⟩ := h
  obtain ⟨v', rfl, hv, hs, hb⟩ := hr
  refine ⟨v', rfl, ?_, hb⟩
  rcases hv with rfl | hv
  · rw [hsame _ rfl hs]
    exact Kd.V_mono (Kd.V_below hs0_0 hb) (fun _ h => .inl h)
  · exact Kd.V_mono (v_of_fresh hs hv) (fun _ h => .inr h)
theorem slat_v {w : World} {A0_0 : Option Addr} {c0_0 : Nat} {l0_0 : List ByteArray} {P0_0_ : Nat → Prop} (hs0_0 : Kd.V Kd.string 9 w w.heap.size (fun k_ => P0_0_ k_) (.slice A0_0 l0_0.length c0_0) l0_0) : SlAt w (.slice A0_0 l0_0.length c0_0) 1 l0_0.length (strs l0_0) := by
  obtain ⟨_, h2, h3⟩ := Kd.V_reads' hs0_0
  exact strs_c h3 h2
theorem slat_same {W : World} {A : Option Addr} {n c : Nat} {xs ys : List ByteArray} (h : SlAt W (.slice A n c) 1 xs.length (strs xs)) (k : SlAt W (.slice A n c) 1 ys.length (strs ys)) : xs = ys := by
  obtain ⟨_, _, _, e1, _, _⟩ := id h
  obtain ⟨_, _, _, e2, _, _⟩ := id k
  injection e1 with _ e1 _
  injection e2 with _ e2 _
  have hl : xs.length = ys.length := e1.symm.trans e2
  rcases Nat.eq_zero_or_pos xs.length with hz | hz
  · exact (List.eq_nil_of_length_eq_zero hz).trans (List.eq_nil_of_length_eq_zero (hl ▸ hz)).symm
  · subst e1
    obtain ⟨b, o, rfl, _, h1⟩ := h.at hz
    rw [hl] at k
    obtain ⟨b', o', e, _, h2⟩ := k.at (by omega)
    injection e with e
    injection e with e3 e4
    subst e3 e4
    apply List.ext_getElem hl
    intro i hi hi'
    have a1 := h1 i _ (strs_get _ _ hi)
    have a2 := h2 i _ (strs_get _ _ hi')
    rw [a1] at a2
    simpa using a2
def store_Append.f (l0_0 : List ByteArray) (a0_1 : Int) (a0_2 : Int) (a0_3 : Int) (a0_4 : Bool) (a1 : ByteArray) (a2_0 : Int) (a2_1 : Int) : Option (List ByteArray × Int × Int × Int × Bool × Int) := stoOut (appendS ⟨l0_0, a0_1, a0_2, a0_3, a0_4⟩ a1 ⟨a2_0, a2_1⟩)
theorem store_Append.calls (P0_0_ : Nat → Prop) (A0_0 : Option Addr) (c0_0 : Nat) (l0_0 : List ByteArray) (a0_1 : Int) (a0_2 : Int) (a0_3 : Int) (a0_4 : Bool) (a1 : ByteArray) (a2_0 : Int) (a2_1 : Int) (r1 : List ByteArray) (r2 : Int) (r3 : Int) (r4 : Int) (r5 : Bool) (r6 : Int) (w : World) (hs0_0 : Kd.V Kd.string 9 w w.heap.size (fun k_ => P0_0_ k_) (.slice A0_0 l0_0.length c0_0) l0_0) (h : store_Append.f l0_0 a0_1 a0_2 a0_3 a0_4 a1 a2_0 a2_1 = some (r1, r2, r3, r4, r5, r6)) :
    Calls Try.prog 21 #[.agg #[.slice A0_0 l0_0.length c0_0, .int .i64 a0_1, .int .i64 a0_2, .int .i64 a0_3, .bool a0_4], .string a1, .agg #[.int .i64 a2_0, .int .i64 a2_1]] w fun e w' => ∃ v0_ : Value, e = .returned (.tuple #[.agg #[v0_, .int .i64 r2, .int .i64 r3, .int .i64 r4, .bool r5], .int .i64 r6]) ∧ Kd.V Kd.string 9 w' w.heap.size (fun k_ => (P0_0_ k_ ∨ w.heap.size ≤ k_)) v0_ r1 ∧ Below w.heap.size w w' := by
  have hS := slat_v hs0_0
  unfold store_Append.f at h
  refine (append_any ⟨l0_0, a0_1, a0_2, a0_3, a0_4⟩ _ a1 ⟨a2_0, a2_1⟩ w hS).mono fun e w' hr => sto_res hs0_0 rfl h (fun v' hv hs => ?_) hr
  subst hv
  obtain ⟨_, _, _, _, hb⟩ := hr
  exact slat_same hs (hS.stay hb)
end Go.Proofs.YtopaddpclipnjaaQ.P
namespace Go.Proofs.YtopaddpclipnjaaQ.P
open Go.RowKit Go.Proofs.YtopaddpclipnjaaW.PrintWords Go.Proofs.YtopaddpclipnjaaW.PrintLast Go.Proofs.YtopaddpclipnjaaW.PrintMore
attribute [local go_sem] max2_int min2_int max_two min_two max_three min_three max_four min_four
def foghornlaw04_alive.f (k : Nat)  : Option (Bool) := (store_New.f k 10).bind fun bt165 => ((store_Append.f bt165.1 bt165.2.1 bt165.2.2.1 bt165.2.2.2.1 bt165.2.2.2.2.1 (⟨#[97]⟩ : ByteArray) 0 0).bind fun bt174 => ((store_Append.f bt174.1 bt174.2.1 bt174.2.2.1 bt174.2.2.2.1 bt174.2.2.2.2.1 (⟨#[98]⟩ : ByteArray) 2 60).bind fun bt182 => ((store_Boot.f k bt182.1).bind fun bt191 => (if bt165.2.2.2.2.2 = 0 then (if bt174.2.2.2.2.2 = 0 then (if bt182.2.2.2.2.2 = 9 then (if bt191.2.2.2.2.2.2 = 0 then (if (bt191.2.2.2.2.2.1.length : Int) = 1 then (if 0 < (bt191.2.2.2.2.2.1.length : Int) then (some ((rdOf ByteArray.empty bt191.2.2.2.2.2.1 0).toList == ([97] : List UInt8))) else (none)) else (some false)) else (some false)) else (some false)) else (some false)) else (some false)))))
theorem foghornlaw04_alive.mono : ∀ k, LeO (foghornlaw04_alive.f k ) (foghornlaw04_alive.f (k + 1) ) := by
 intro  k
 unfold foghornlaw04_alive.f
 repeat' first
   | (with_reducible exact store_Boot.mono _ _)
   | (with_reducible exact store_New.mono _ _)
   | (with_reducible exact LeO.refl _)
   | (with_reducible exact LeO.none _)
   | (with_reducible refine LeO.ite ?_ ?_)
   | (with_reducible refine LeO.bind ?_ (fun _ => ?_))
   | exact store_Boot.mono _ _
   | exact store_New.mono _ _
   | exact LeO.none _
   | refine LeO.ite ?_ ?_
   | refine LeO.bind ?_ (fun _ => ?_)
set_option maxHeartbeats 8000000 in
set_option maxRecDepth 100000 in
theorem foghornlaw04_alive.callsT (k : Nat)  (r : Bool) (w : World) (h : foghornlaw04_alive.f k  = some r) (hrt_ : r = true) :
  Calls Try.prog 15 #[] w fun e w' => e = .returned (.bool r) ∧ Below w.heap.size w w' := by
 have hu26 := Try.underlying26
 have hu45 := Try.underlying45
 have hu24 := Try.underlying24
 have HB := aA (Below.refl w.heap.size w)
 have H : ((store_New.f k 10).bind fun bt165 => ((store_Append.f bt165.1 bt165.2.1 bt165.2.2.1 bt165.2.2.2.1 bt165.2.2.2.2.1 (⟨#[97]⟩ : ByteArray) 0 0).bind fun bt174 => ((store_Append.f bt174.1 bt174.2.1 bt174.2.2.1 bt174.2.2.2.1 bt174.2.2.2.2.1 (⟨#[98]⟩ : ByteArray) 2 60).bind fun bt182 => ((store_Boot.f k bt182.1).bind fun bt191 => (if bt165.2.2.2.2.2 = 0 then (if bt174.2.2.2.2.2 = 0 then (if bt182.2.2.2.2.2 = 9 then (if bt191.2.2.2.2.2.2 = 0 then (if (bt191.2.2.2.2.2.1.length : Int) = 1 then (if 0 < (bt191.2.2.2.2.2.1.length : Int) then (some ((rdOf ByteArray.empty bt191.2.2.2.2.2.1 0).toList == ([97] : List UInt8))) else (none)) else (some false)) else (some false)) else (some false)) else (some false)) else (some false)))))) = some r := h
 clear h
 replace H := Option.bind_eq_some_iff.mp H
 obtain ⟨⟨t165, t168, t169, t170, t171, t172⟩, A10, H⟩ := H
 have A1 := aA A10
 clear A10
 replace H := Option.bind_eq_some_iff.mp H
 obtain ⟨⟨t174, t177, t178, t179, t180, t181⟩, A20, H⟩ := H
 have A2 := aA A20
 clear A20
 replace H := Option.bind_eq_some_iff.mp H
 obtain ⟨⟨t182, t185, t186, t187, t188, t189⟩, A30, H⟩ := H
 have A3 := aA A30
 clear A30
 replace H := Option.bind_eq_some_iff.mp H
 obtain ⟨⟨t191, t194, t195, t196, t197, t198, t201⟩, A40, H⟩ := H
 have A4 := aA A40
 clear A40
 by_cases c5 : t172 = 0
 ·rw [if_pos c5] at H
  have c5b0 : (t172 == 0) = true := beq_iff_eq.mpr c5
  have c5b1 : (t172 != 0) = false := bne_eq_false_iff_eq.mpr c5
  clear c5
  by_cases c6 : t181 = 0
  ·rw [if_pos c6] at H
   have c6b0 : (t181 == 0) = true := beq_iff_eq.mpr c6
   have c6b1 : (t181 != 0) = false := bne_eq_false_iff_eq.mpr c6
   clear c6
   by_cases c7 : t189 = 9
   ·rw [if_pos c7] at H
    have c7b0 : (t189 == 9) = true := beq_iff_eq.mpr c7
    have c7b1 : (t189 != 9) = false := bne_eq_false_iff_eq.mpr c7
    clear c7
    by_cases c8 : t201 = 0
    ·rw [if_pos c8] at H
     have c8b0 : (t201 == 0) = true := beq_iff_eq.mpr c8
     have c8b1 : (t201 != 0) = false := bne_eq_false_iff_eq.mpr c8
     clear c8
     by_cases c9 : (t198.length : Int) = 1
     ·rw [if_pos c9] at H
      have c9b0 : ((t198.length : Int) == 1) = true := beq_iff_eq.mpr c9
      have c9b1 : ((t198.length : Int) != 1) = false := bne_eq_false_iff_eq.mpr c9
      clear c9
      by_cases c10 : 0 < (t198.length : Int)
      ·rw [if_pos c10] at H
       have c10b0 : decide (0 < (t198.length : Int)) = true := decide_eq_true c10
       have c10b1 : decide (0 < t198.length) = true := decide_eq_true (by omega)
       clear c10
       obtain rfl := Option.some.inj H
       go_enter Try.func15, Try.ntmps15
       go_wp2_with (first | ((with_reducible refine gate_callee (f := 11) rfl ?_); refine goesL_ (some 10) rfl rfl Try.func11 (by kernel_rfl) rfl #[.int .i64 10] rfl mS ?_; (with_reducible refine (store_New.calls k 10 t165 t168 t169 t170 t171 t172 _ A1.out).mono ?_); rintro e w11 ⟨v166, rfl, ho0, hb⟩; refine ⟨_, rfl, ?_⟩; have n0_ := aA (Kd.V_lower (Kd.V_mono (ok' := fun k_ => True) ho0 (fun k_ hk_ => trivial)) (below_size mB)); have n1_ := aA (below_step mB hb); clear HB; have HO167 := n0_; have HB := n1_; clear n0_ n1_; (try clear hb); (try clear hb2); (try clear hk); (try clear hi); (try clear ho0)) | ((with_reducible refine gate_dst (N := 1) rfl ?_); (try (refine gate_guard (by rfl) ?_; dsimp only)); refine box_event ?hg (N := 1) ?hd (cs := #[.slice none 0 0, .int .i64 0, .int .i64 0, .int .i64 0, .bool false]) (t := 26) ?hr ?_; (case hd => rfl); (case hg => rfl); (case hr => first | (go_simp; done) | (go_simp; rfl)); intro gb173 hg w12 hbox hb; have n0_ := aA (Kd.V_below (Kd.V_elderB (by (with_reducible repeat (first | apply Kd.V_alloc | apply Kd.V_drewN | apply Kd.V_drew)); exact HO167.out) gb173 (Nat.le_of_eq hg.symm)) hb); have n1_ := aA (below_step mB hb); have n2_ := aA (hbox); have n3_ := aA ((bZ hg mB)); have n4_ := aA ((bZ hg mB)); clear HO167 HB; have HO167 := n0_; have HB := n1_; have BK173 := n2_; have GW173 := n3_; have GE173 := n4_; clear n0_ n1_ n2_ n3_ n4_ hb hbox hg; obtain ⟨Ao13, co13, eo13⟩ := Kd.V_slice HO167.out; subst eo13; obtain ⟨hcz14_0, hcz14_1, hcz14_2, hcz14_3, hcz14_4⟩ := bC5 BK173.out; obtain ⟨hfz14_0, hfz14_1, hfz14_2, hfz14_3, hfz14_4⟩ := bF5 BK173.out) | ((with_reducible refine gate_store (t := 26) (p := 1) rfl ?_); refine store_event (t := 26) (p := 1) (v := ?vo_w15) (w1 := (((((w12.setCell ⟨gb173, 0, none⟩ (.slice Ao13 t165.length co13)).setCell ⟨gb173, 1, none⟩ (.int .i64 t168)).setCell ⟨gb173, 2, none⟩ (.int .i64 t169)).setCell ⟨gb173, 3, none⟩ (.int .i64 t170)).setCell ⟨gb173, 4, none⟩ (.bool t171))) ?hg ?ho ?hn ?hr ?_; (case ho => rfl); (case hg => rfl); (case hn => rfl); (case hr => first | (go_simp; done) | (go_simp; rfl)); intro w15 hw; have n0_ : Aside0 (Kd.V Kd.string 9 w15 w.heap.size (fun k_ => k_ ≠ gb173) (.slice Ao13 t165.length co13) t165) := ⟨(by rw [hw]; exact (by (with_reducible repeat (first | apply Kd.V_alloc | apply Kd.V_drewN | apply Kd.V_drew)); exact Kd.V_mono (Kd.V_far (p := ⟨gb173, 4, none⟩) (Kd.V_far (p := ⟨gb173, 3, none⟩) (Kd.V_far (p := ⟨gb173, 2, none⟩) (Kd.V_far (p := ⟨gb173, 1, none⟩) (Kd.V_far (p := ⟨gb173, 0, none⟩) (Kd.V_mono HO167.out (fun k_ hk => (⟨hk, hk.2⟩ : _ ∧ k_ ≠ gb173))) (fun _ hk => hk.2) (.slice Ao13 t165.length co13)) (fun _ hk => hk.2) (.int .i64 t168)) (fun _ hk => hk.2) (.int .i64 t169)) (fun _ hk => hk.2) (.int .i64 t170)) (fun _ hk => hk.2) (.bool t171)) (fun _ hk => hk.1.2)))⟩; have n1_ : Aside0 (w15.heap[gb173]? = some (.cells #[.slice Ao13 t165.length co13, .int .i64 t168, .int .i64 t169, .int .i64 t170, .bool t171] 26 (0, 0))) := ⟨(by rw [hw]; exact (by (with_reducible repeat (first | refine blk_drewN ?_ _ | refine blk_drew ?_ | refine blk_alloc ?_ _)); have h_ := BK173.out; exact pK 4 (pK 3 (pK 2 (pK 1 (pK 0 (h_)))))))⟩; have n2_ : Aside0 (Below w.heap.size w w15) := ⟨(by rw [hw]; exact (mD1 GE173.out))⟩; clear hw HO167 BK173 HB; have HO167 := n0_; have BK173 := n1_; have HB := n2_; clear n0_ n1_ n2_; obtain ⟨hcz16_0, hcz16_1, hcz16_2, hcz16_3, hcz16_4⟩ := bC5 BK173.out; obtain ⟨hfz16_0, hfz16_1, hfz16_2, hfz16_3, hfz16_4⟩ := bF5 BK173.out) | ((with_reducible refine gate_callee (f := 21) rfl ?_); refine goesL_ (some 16) rfl rfl Try.func21 (by kernel_rfl) rfl #[.agg #[.slice Ao13 t165.length co13, .int .i64 t168, .int .i64 t169, .int .i64 t170, .bool t171], .string (⟨#[97]⟩ : ByteArray), .agg #[.int .i64 0, .int .i64 0]] rfl mS ?_; (with_reducible refine (store_Append.calls (fun k_ => k_ ≠ gb173) _ _ t165 t168 t169 t170 t171 (⟨#[97]⟩ : ByteArray) 0 0 t174 t177 t178 t179 t180 t181 _ ?side1 A2.out).mono ?_); (case side1 => exact HO167.out); rintro e w17 ⟨v175, rfl, ho0, hb⟩; refine ⟨_, rfl, ?_⟩; have n0_ := aA (Kd.V_below (by (with_reducible repeat (first | apply Kd.V_alloc | apply Kd.V_drewN | apply Kd.V_drew)); exact HO167.out) hb); have n1_ := aA (Kd.V_lower (Kd.V_mono (ok' := fun k_ => k_ ≠ gb173) ho0 (fun k_ hk_ => Or.elim hk_ (fun hs_ => hs_) (fun hn_ => (Kd.freshB (g := gb173) (o := .cells #[.slice Ao13 t165.length co13, .int .i64 t168, .int .i64 t169, .int .i64 t170, .bool t171] 26 (0, 0)) (mK BK173.out) k_ hn_)))) (below_size (mD1 GE173.out))); have n2_ := aA (bB BK173.out hb); have n3_ := aA (below_step (mD1 GE173.out) hb); clear HO167 BK173 HB; have HO167 := n0_; have HO176 := n1_; have BK173 := n2_; have HB := n3_; clear n0_ n1_ n2_ n3_; (try clear hb); (try clear hb2); (try clear hk); (try clear hi); (try clear ho0); obtain ⟨Ao18, co18, eo18⟩ := Kd.V_slice HO176.out; subst eo18; obtain ⟨hcz19_0, hcz19_1, hcz19_2, hcz19_3, hcz19_4⟩ := bC5 BK173.out; obtain ⟨hfz19_0, hfz19_1, hfz19_2, hfz19_3, hfz19_4⟩ := bF5 BK173.out) | ((with_reducible refine gate_store (t := 26) (p := 1) rfl ?_); refine store_event (t := 26) (p := 1) (v := ?vo_w20) (w1 := (((((w17.setCell ⟨gb173, 0, none⟩ (.slice Ao18 t174.length co18)).setCell ⟨gb173, 1, none⟩ (.int .i64 t177)).setCell ⟨gb173, 2, none⟩ (.int .i64 t178)).setCell ⟨gb173, 3, none⟩ (.int .i64 t179)).setCell ⟨gb173, 4, none⟩ (.bool t180))) ?hg ?ho ?hn ?hr ?_; (case ho => rfl); (case hg => rfl); (case hn => rfl); (case hr => first | (go_simp; done) | (go_simp; rfl)); intro w20 hw; have n0_ : Aside0 (Kd.V Kd.string 9 w20 w.heap.size (fun k_ => k_ ≠ gb173) (.slice Ao13 t165.length co13) t165) := ⟨(by rw [hw]; exact (by (with_reducible repeat (first | apply Kd.V_alloc | apply Kd.V_drewN | apply Kd.V_drew)); exact Kd.V_mono (Kd.V_far (p := ⟨gb173, 4, none⟩) (Kd.V_far (p := ⟨gb173, 3, none⟩) (Kd.V_far (p := ⟨gb173, 2, none⟩) (Kd.V_far (p := ⟨gb173, 1, none⟩) (Kd.V_far (p := ⟨gb173, 0, none⟩) (Kd.V_mono HO167.out (fun k_ hk => (⟨hk, hk⟩ : _ ∧ k_ ≠ gb173))) (fun _ hk => hk.2) (.slice Ao18 t174.length co18)) (fun _ hk => hk.2) (.int .i64 t177)) (fun _ hk => hk.2) (.int .i64 t178)) (fun _ hk => hk.2) (.int .i64 t179)) (fun _ hk => hk.2) (.bool t180)) (fun _ hk => hk.1)))⟩; have n1_ : Aside0 (Kd.V Kd.string 9 w20 w.heap.size (fun k_ => k_ ≠ gb173) (.slice Ao18 t174.length co18) t174) := ⟨(by rw [hw]; exact (by (with_reducible repeat (first | apply Kd.V_alloc | apply Kd.V_drewN | apply Kd.V_drew)); exact Kd.V_mono (Kd.V_far (p := ⟨gb173, 4, none⟩) (Kd.V_far (p := ⟨gb173, 3, none⟩) (Kd.V_far (p := ⟨gb173, 2, none⟩) (Kd.V_far (p := ⟨gb173, 1, none⟩) (Kd.V_far (p := ⟨gb173, 0, none⟩) (Kd.V_mono HO176.out (fun k_ hk => (⟨hk, hk⟩ : _ ∧ k_ ≠ gb173))) (fun _ hk => hk.2) (.slice Ao18 t174.length co18)) (fun _ hk => hk.2) (.int .i64 t177)) (fun _ hk => hk.2) (.int .i64 t178)) (fun _ hk => hk.2) (.int .i64 t179)) (fun _ hk => hk.2) (.bool t180)) (fun _ hk => hk.1)))⟩; have n2_ : Aside0 (w20.heap[gb173]? = some (.cells #[.slice Ao18 t174.length co18, .int .i64 t177, .int .i64 t178, .int .i64 t179, .bool t180] 26 (0, 0))) := ⟨(by rw [hw]; exact (by (with_reducible repeat (first | refine blk_drewN ?_ _ | refine blk_drew ?_ | refine blk_alloc ?_ _)); have h_ := BK173.out; exact pK 4 (pK 3 (pK 2 (pK 1 (pK 0 (h_)))))))⟩; have n3_ : Aside0 (Below w.heap.size w w20) := ⟨(by rw [hw]; exact (mD1 GE173.out))⟩; clear hw HO167 HO176 BK173 HB; have HO167 := n0_; have HO176 := n1_; have BK173 := n2_; have HB := n3_; clear n0_ n1_ n2_ n3_; obtain ⟨hcz21_0, hcz21_1, hcz21_2, hcz21_3, hcz21_4⟩ := bC5 BK173.out; obtain ⟨hfz21_0, hfz21_1, hfz21_2, hfz21_3, hfz21_4⟩ := bF5 BK173.out) | ((with_reducible refine gate_callee (f := 21) rfl ?_); refine goesL_ (some 22) rfl rfl Try.func21 (by kernel_rfl) rfl #[.agg #[.slice Ao18 t174.length co18, .int .i64 t177, .int .i64 t178, .int .i64 t179, .bool t180], .string (⟨#[98]⟩ : ByteArray), .agg #[.int .i64 2, .int .i64 60]] rfl mS ?_; (with_reducible refine (store_Append.calls (fun k_ => k_ ≠ gb173) _ _ t174 t177 t178 t179 t180 (⟨#[98]⟩ : ByteArray) 2 60 t182 t185 t186 t187 t188 t189 _ ?side1 A3.out).mono ?_); (case side1 => exact HO176.out); rintro e w22 ⟨v183, rfl, ho0, hb⟩; refine ⟨_, rfl, ?_⟩; have n0_ := aA (Kd.V_below (by (with_reducible repeat (first | apply Kd.V_alloc | apply Kd.V_drewN | apply Kd.V_drew)); exact HO167.out) hb); have n1_ := aA (Kd.V_below (by (with_reducible repeat (first | apply Kd.V_alloc | apply Kd.V_drewN | apply Kd.V_drew)); exact HO176.out) hb); have n2_ := aA (Kd.V_lower (Kd.V_mono (ok' := fun k_ => k_ ≠ gb173) ho0 (fun k_ hk_ => Or.elim hk_ (fun hs_ => hs_) (fun hn_ => (Kd.freshB (g := gb173) (o := .cells #[.slice Ao18 t174.length co18, .int .i64 t177, .int .i64 t178, .int .i64 t179, .bool t180] 26 (0, 0)) (mK BK173.out) k_ hn_)))) (below_size (mD1 GE173.out))); have n3_ := aA (bB BK173.out hb); have n4_ := aA (below_step (mD1 GE173.out) hb); clear HO167 HO176 BK173 HB; have HO167 := n0_; have HO176 := n1_; have HO184 := n2_; have BK173 := n3_; have HB := n4_; clear n0_ n1_ n2_ n3_ n4_; (try clear hb); (try clear hb2); (try clear hk); (try clear hi); (try clear ho0)) | ((with_reducible refine gate_dst (N := 4) rfl ?_); (try (refine gate_guard (by rfl) ?_; dsimp only)); refine box_event ?hg (N := 4) ?hd (cs := #[.slice none 0 0, .int .i64 0, .int .i64 0, .int .i64 0, .bool false]) (t := 26) ?hr ?_; (case hd => rfl); (case hg => rfl); (case hr => first | (go_simp; done) | (go_simp; rfl)); intro gb190 hg w23 hbox hb; have n0_ := aA (Kd.V_below (Kd.V_elderB (by (with_reducible repeat (first | apply Kd.V_alloc | apply Kd.V_drewN | apply Kd.V_drew)); exact HO167.out) gb190 (Nat.le_of_eq hg.symm)) hb); have n1_ := aA (Kd.V_below (Kd.V_elderB (by (with_reducible repeat (first | apply Kd.V_alloc | apply Kd.V_drewN | apply Kd.V_drew)); exact HO176.out) gb190 (Nat.le_of_eq hg.symm)) hb); have n2_ := aA (Kd.V_below (Kd.V_elderB (by (with_reducible repeat (first | apply Kd.V_alloc | apply Kd.V_drewN | apply Kd.V_drew)); exact HO184.out) gb190 (Nat.le_of_eq hg.symm)) hb); have n3_ := aA (bB BK173.out hb); have n4_ := aA (below_step (mD1 GE173.out) hb); have n5_ := aA (hbox); have n6_ := aA ((bZ hg (mD1 GE173.out))); have n7_ := aA ((bZ hg (mD1 GE173.out))); have n8_ := aA ((bL hg BK173.out)); have n9_ := aA ((bG hg BK173.out)); clear HO167 HO176 HO184 BK173 HB; have HO167 := n0_; have HO176 := n1_; have HO184 := n2_; have BK173 := n3_; have HB := n4_; have BK190 := n5_; have GW190 := n6_; have GE190 := n7_; have NB173_190 := n8_; have NB190_173 := n9_; clear n0_ n1_ n2_ n3_ n4_ n5_ n6_ n7_ n8_ n9_ hb hbox hg; obtain ⟨Ao24, co24, eo24⟩ := Kd.V_slice HO184.out; subst eo24; have hnb25 := NB190_173.out; have hnc25 := NB173_190.out; obtain ⟨hcz26_0, hcz26_1, hcz26_2, hcz26_3, hcz26_4⟩ := bC5 BK190.out; obtain ⟨hfz26_0, hfz26_1, hfz26_2, hfz26_3, hfz26_4⟩ := bF5 BK190.out) | ((with_reducible refine gate_store (t := 26) (p := 4) rfl ?_); refine store_event (t := 26) (p := 4) (v := ?vo_w27) (w1 := (((((w23.setCell ⟨gb190, 0, none⟩ (.slice Ao24 t182.length co24)).setCell ⟨gb190, 1, none⟩ (.int .i64 t185)).setCell ⟨gb190, 2, none⟩ (.int .i64 t186)).setCell ⟨gb190, 3, none⟩ (.int .i64 t187)).setCell ⟨gb190, 4, none⟩ (.bool t188))) ?hg ?ho ?hn ?hr ?_; (case ho => rfl); (case hg => rfl); (case hn => rfl); (case hr => first | (go_simp; done) | (go_simp; rfl)); intro w27 hw; have n0_ : Aside0 (Kd.V Kd.string 9 w27 w.heap.size (fun k_ => k_ ≠ gb173 ∧ k_ ≠ gb190) (.slice Ao13 t165.length co13) t165) := ⟨(by rw [hw]; exact (by (with_reducible repeat (first | apply Kd.V_alloc | apply Kd.V_drewN | apply Kd.V_drew)); exact Kd.V_mono (Kd.V_far (p := ⟨gb190, 4, none⟩) (Kd.V_far (p := ⟨gb190, 3, none⟩) (Kd.V_far (p := ⟨gb190, 2, none⟩) (Kd.V_far (p := ⟨gb190, 1, none⟩) (Kd.V_far (p := ⟨gb190, 0, none⟩) (Kd.V_mono HO167.out (fun k_ hk => (⟨hk, hk.2⟩ : _ ∧ k_ ≠ gb190))) (fun _ hk => hk.2) (.slice Ao24 t182.length co24)) (fun _ hk => hk.2) (.int .i64 t185)) (fun _ hk => hk.2) (.int .i64 t186)) (fun _ hk => hk.2) (.int .i64 t187)) (fun _ hk => hk.2) (.bool t188)) (fun _ hk => ⟨hk.1.1, hk.1.2⟩)))⟩; have n1_ : Aside0 (Kd.V Kd.string 9 w27 w.heap.size (fun k_ => k_ ≠ gb173 ∧ k_ ≠ gb190) (.slice Ao18 t174.length co18) t174) := ⟨(by rw [hw]; exact (by (with_reducible repeat (first | apply Kd.V_alloc | apply Kd.V_drewN | apply Kd.V_drew)); exact Kd.V_mono (Kd.V_far (p := ⟨gb190, 4, none⟩) (Kd.V_far (p := ⟨gb190, 3, none⟩) (Kd.V_far (p := ⟨gb190, 2, none⟩) (Kd.V_far (p := ⟨gb190, 1, none⟩) (Kd.V_far (p := ⟨gb190, 0, none⟩) (Kd.V_mono HO176.out (fun k_ hk => (⟨hk, hk.2⟩ : _ ∧ k_ ≠ gb190))) (fun _ hk => hk.2) (.slice Ao24 t182.length co24)) (fun _ hk => hk.2) (.int .i64 t185)) (fun _ hk => hk.2) (.int .i64 t186)) (fun _ hk => hk.2) (.int .i64 t187)) (fun _ hk => hk.2) (.bool t188)) (fun _ hk => ⟨hk.1.1, hk.1.2⟩)))⟩; have n2_ : Aside0 (Kd.V Kd.string 9 w27 w.heap.size (fun k_ => k_ ≠ gb173 ∧ k_ ≠ gb190) (.slice Ao24 t182.length co24) t182) := ⟨(by rw [hw]; exact (by (with_reducible repeat (first | apply Kd.V_alloc | apply Kd.V_drewN | apply Kd.V_drew)); exact Kd.V_mono (Kd.V_far (p := ⟨gb190, 4, none⟩) (Kd.V_far (p := ⟨gb190, 3, none⟩) (Kd.V_far (p := ⟨gb190, 2, none⟩) (Kd.V_far (p := ⟨gb190, 1, none⟩) (Kd.V_far (p := ⟨gb190, 0, none⟩) (Kd.V_mono HO184.out (fun k_ hk => (⟨hk, hk.2⟩ : _ ∧ k_ ≠ gb190))) (fun _ hk => hk.2) (.slice Ao24 t182.length co24)) (fun _ hk => hk.2) (.int .i64 t185)) (fun _ hk => hk.2) (.int .i64 t186)) (fun _ hk => hk.2) (.int .i64 t187)) (fun _ hk => hk.2) (.bool t188)) (fun _ hk => ⟨hk.1.1, hk.1.2⟩)))⟩; have n3_ : Aside0 (w27.heap[gb173]? = some (.cells #[.slice Ao18 t174.length co18, .int .i64 t177, .int .i64 t178, .int .i64 t179, .bool t180] 26 (0, 0))) := ⟨(by rw [hw]; exact (by (with_reducible repeat (first | refine blk_drewN ?_ _ | refine blk_drew ?_ | refine blk_alloc ?_ _)); refine blk_far ?_ NB173_190.out _; (with_reducible repeat (first | refine blk_drewN ?_ _ | refine blk_drew ?_ | refine blk_alloc ?_ _)); refine blk_far ?_ NB173_190.out _; (with_reducible repeat (first | refine blk_drewN ?_ _ | refine blk_drew ?_ | refine blk_alloc ?_ _)); refine blk_far ?_ NB173_190.out _; (with_reducible repeat (first | refine blk_drewN ?_ _ | refine blk_drew ?_ | refine blk_alloc ?_ _)); refine blk_far ?_ NB173_190.out _; (with_reducible repeat (first | refine blk_drewN ?_ _ | refine blk_drew ?_ | refine blk_alloc ?_ _)); refine blk_far ?_ NB173_190.out _; (with_reducible repeat (first | refine blk_drewN ?_ _ | refine blk_drew ?_ | refine blk_alloc ?_ _)); exact BK173.out))⟩; have n4_ : Aside0 (w27.heap[gb190]? = some (.cells #[.slice Ao24 t182.length co24, .int .i64 t185, .int .i64 t186, .int .i64 t187, .bool t188] 26 (0, 0))) := ⟨(by rw [hw]; exact (by (with_reducible repeat (first | refine blk_drewN ?_ _ | refine blk_drew ?_ | refine blk_alloc ?_ _)); have h_ := BK190.out; exact pK 4 (pK 3 (pK 2 (pK 1 (pK 0 (h_)))))))⟩; have n5_ : Aside0 (Below w.heap.size w w27) := ⟨(by rw [hw]; exact (mD2 GE173.out GE190.out))⟩; clear hw HO167 HO176 HO184 BK173 BK190 HB; have HO167 := n0_; have HO176 := n1_; have HO184 := n2_; have BK173 := n3_; have BK190 := n4_; have HB := n5_; clear n0_ n1_ n2_ n3_ n4_ n5_; obtain ⟨hcz28_0, hcz28_1, hcz28_2, hcz28_3, hcz28_4⟩ := bC5 BK190.out; obtain ⟨hfz28_0, hfz28_1, hfz28_2, hfz28_3, hfz28_4⟩ := bF5 BK190.out) | ((with_reducible refine gate_callee (f := 12) rfl ?_); refine goesL_ (some 28) rfl rfl Try.func12 (by kernel_rfl) rfl #[.agg #[.slice Ao24 t182.length co24]] rfl mS ?_; (with_reducible refine (store_Boot.calls k (fun k_ => (k_ ≠ gb173 ∧ k_ ≠ gb190)) _ _ t182 t191 t194 t195 t196 t197 t198 t201 _ ?side1 A4.out).mono ?_); (case side1 => exact HO184.out); rintro e w29 ⟨v192, v199, rfl, ho0, ho1, hb⟩; refine ⟨_, rfl, ?_⟩; have n0_ := aA (Kd.V_elder' (by (with_reducible repeat (first | apply Kd.V_alloc | apply Kd.V_drewN | apply Kd.V_drew)); exact HO167.out) (Kd.R_base ho1) hb); have n1_ := aA (Kd.V_elder' (by (with_reducible repeat (first | apply Kd.V_alloc | apply Kd.V_drewN | apply Kd.V_drew)); exact HO176.out) (Kd.R_base ho1) hb); have n2_ := aA (Kd.V_elder' (by (with_reducible repeat (first | apply Kd.V_alloc | apply Kd.V_drewN | apply Kd.V_drew)); exact HO184.out) (Kd.R_base ho1) hb); have n3_ := aA (Kd.V_lower (Kd.V_mono (ok' := fun k_ => some k_ ≠ (v199 : Value).ownBlock ∧ k_ ≠ gb173 ∧ k_ ≠ gb190) ho0 (fun k_ hk_ => ⟨hk_.2, Or.elim hk_.1 (fun hs_ => hs_.1) (fun hn_ => (Kd.freshB (g := gb173) (o := .cells #[.slice Ao18 t174.length co18, .int .i64 t177, .int .i64 t178, .int .i64 t179, .bool t180] 26 (0, 0)) (mK BK173.out) k_ hn_)), Or.elim hk_.1 (fun hs_ => hs_.2) (fun hn_ => (Kd.freshB (g := gb190) (o := .cells #[.slice Ao24 t182.length co24, .int .i64 t185, .int .i64 t186, .int .i64 t187, .bool t188] 26 (0, 0)) (mK BK190.out) k_ hn_))⟩)) (below_size (mD2 GE173.out GE190.out))); have n4_ := aA (Kd.R_lower (Kd.R_mono (ok' := fun k_ => True) ho1 (fun _ hk_ => trivial)) (below_size (mD2 GE173.out GE190.out))); have n5_ := aA (bB BK173.out hb); have n6_ := aA (bB BK190.out hb); have n7_ := aA (below_step (mD2 GE173.out GE190.out) hb); clear HO167 HO176 HO184 BK173 BK190 HB; have HO167 := n0_; have HO176 := n1_; have HO184 := n2_; have HO193 := n3_; have HO200 := n4_; have BK173 := n5_; have BK190 := n6_; have HB := n7_; clear n0_ n1_ n2_ n3_ n4_ n5_ n6_ n7_; (try clear hb); (try clear hb2); (try clear hk); (try clear hi); (try clear ho0); (try clear ho1)) | ((with_reducible refine gate_dst (N := 6) rfl ?_); (try (refine gate_guard (by rfl) ?_; dsimp only)); refine box_event ?hg (N := 6) ?hd (cs := #[.slice none 0 0, .int .i64 0, .int .i64 0, .int .i64 0, .bool false]) (t := 26) ?hr ?_; (case hd => rfl); (case hg => rfl); (case hr => first | (go_simp; done) | (go_simp; rfl)); intro gb202 hg w30 hbox hb; have n0_ := aA (Kd.V_below (Kd.V_elderB (by (with_reducible repeat (first | apply Kd.V_alloc | apply Kd.V_drewN | apply Kd.V_drew)); exact HO167.out) gb202 (Nat.le_of_eq hg.symm)) hb); have n1_ := aA (Kd.V_below (Kd.V_elderB (by (with_reducible repeat (first | apply Kd.V_alloc | apply Kd.V_drewN | apply Kd.V_drew)); exact HO176.out) gb202 (Nat.le_of_eq hg.symm)) hb); have n2_ := aA (Kd.V_below (Kd.V_elderB (by (with_reducible repeat (first | apply Kd.V_alloc | apply Kd.V_drewN | apply Kd.V_drew)); exact HO184.out) gb202 (Nat.le_of_eq hg.symm)) hb); have n3_ := aA (Kd.V_below (Kd.V_elderB (by (with_reducible repeat (first | apply Kd.V_alloc | apply Kd.V_drewN | apply Kd.V_drew)); exact HO193.out) gb202 (Nat.le_of_eq hg.symm)) hb); have n4_ := aA (Kd.R_below (mR HO200.out) hb); have n5_ := aA (bB BK173.out hb); have n6_ := aA (bB BK190.out hb); have n7_ := aA (below_step (mD2 GE173.out GE190.out) hb); have n8_ := aA (hbox); have n9_ := aA ((bZ hg (mD2 GE173.out GE190.out))); have n10_ := aA ((bZ hg (mD2 GE173.out GE190.out))); have n11_ := aA ((bL hg BK173.out)); have n12_ := aA ((bG hg BK173.out)); have n13_ := aA ((bL hg BK190.out)); have n14_ := aA ((bG hg BK190.out)); clear HO167 HO176 HO184 HO193 HO200 BK173 BK190 HB; have HO167 := n0_; have HO176 := n1_; have HO184 := n2_; have HO193 := n3_; have HO200 := n4_; have BK173 := n5_; have BK190 := n6_; have HB := n7_; have BK202 := n8_; have GW202 := n9_; have GE202 := n10_; have NB173_202 := n11_; have NB202_173 := n12_; have NB190_202 := n13_; have NB202_190 := n14_; clear n0_ n1_ n2_ n3_ n4_ n5_ n6_ n7_ n8_ n9_ n10_ n11_ n12_ n13_ n14_ hb hbox hg; obtain ⟨Ao31, co31, eo31⟩ := Kd.V_slice HO193.out; subst eo31; have hnb32 := NB202_173.out; have hnc32 := NB173_202.out; have hnb33 := NB202_190.out; have hnc33 := NB190_202.out; obtain ⟨hcz34_0, hcz34_1, hcz34_2, hcz34_3, hcz34_4⟩ := bC5 BK202.out; obtain ⟨hfz34_0, hfz34_1, hfz34_2, hfz34_3, hfz34_4⟩ := bF5 BK202.out; obtain ⟨Ao35, co35, eo35⟩ := Kd.R_slice HO200.out; subst eo35; have p203 : 0 ≤ (0 : Int) := (by omega); have q203 : 0 < (t198.length : Int) := of_decide_eq_true (by first | (with_reducible assumption) | assumption); obtain ⟨ad203, e203, hx203_0⟩ := Kd.at_string (Kd.R_reads' HO200.out).2.2 0 p203 q203; cases e203; have qi203 : (0 < t198.length) = True := eq_true (by omega); (try rw [show ((0 : Int)).toNat = 0 from rfl] at hx203_0); (try rw [Addr.add_zero'] at hx203_0); have hn203_0 : ad203.block ≠ gb202 := Kd.own_blk (Kd.R_ne HO200.out BK202.out (by decide)); have hn203_1 : ad203.block ≠ gb202 := Kd.own_blk (Kd.R_ne HO200.out BK202.out (by decide)); have hn203_2 : ad203.block ≠ gb202 := Kd.own_blk (Kd.R_ne HO200.out BK202.out (by decide)); have hn203_3 : ad203.block ≠ gb202 := Kd.own_blk (Kd.R_ne HO200.out BK202.out (by decide)); have hn203_4 : ad203.block ≠ gb202 := Kd.own_blk (Kd.R_ne HO200.out BK202.out (by decide)); replace hx203_0 := (cell_far (p := ⟨gb202, 0, none⟩) (by first | (rw [add_block]; exact hn203_0) | (show (Addr.add _ _).block ≠ _; rw [add_block]; exact hn203_0) | exact hn203_0) (.slice Ao31 t191.length co31)).trans hx203_0; replace hx203_0 := (cell_far (p := ⟨gb202, 1, none⟩) (by first | (rw [add_block]; exact hn203_1) | (show (Addr.add _ _).block ≠ _; rw [add_block]; exact hn203_1) | exact hn203_1) (.int .i64 t194)).trans hx203_0; replace hx203_0 := (cell_far (p := ⟨gb202, 2, none⟩) (by first | (rw [add_block]; exact hn203_2) | (show (Addr.add _ _).block ≠ _; rw [add_block]; exact hn203_2) | exact hn203_2) (.int .i64 t195)).trans hx203_0; replace hx203_0 := (cell_far (p := ⟨gb202, 3, none⟩) (by first | (rw [add_block]; exact hn203_3) | (show (Addr.add _ _).block ≠ _; rw [add_block]; exact hn203_3) | exact hn203_3) (.int .i64 t196)).trans hx203_0; replace hx203_0 := (cell_far (p := ⟨gb202, 4, none⟩) (by first | (rw [add_block]; exact hn203_4) | (show (Addr.add _ _).block ≠ _; rw [add_block]; exact hn203_4) | exact hn203_4) (.bool t197)).trans hx203_0; clear hn203_0 hn203_1 hn203_2 hn203_3 hn203_4; replace p203 := eq_true p203; replace q203 := eq_true q203))
       go_ret
       exact ⟨by first | rfl | (simp [errW_none, errW_some] <;> rfl) | (simp [*, errW_none, errW_some] <;> rfl), by repeat (first | (with_reducible first | exact HB.out | apply below_alloc | apply pw_below_drewN | apply below_drew1 | refine below_set ?_ GE173.out | refine below_set ?_ GE190.out | refine below_set ?_ GE202.out) | exact HB.out)⟩
      ·rw [if_neg c10] at H
       exact absurd H (by simp)
     ·rw [if_neg c9] at H
      have c9b0 : ((t198.length : Int) == 1) = false := beq_eq_false_iff_ne.mpr c9
      have c9b1 : ((t198.length : Int) != 1) = true := bne_iff_ne.mpr c9
      exact absurd (Option.some.inj H) (by rw [hrt_]; decide)
    ·rw [if_neg c8] at H
     have c8b0 : (t201 == 0) = false := beq_eq_false_iff_ne.mpr c8
     have c8b1 : (t201 != 0) = true := bne_iff_ne.mpr c8
     exact absurd (Option.some.inj H) (by rw [hrt_]; decide)
   ·rw [if_neg c7] at H
    have c7b0 : (t189 == 9) = false := beq_eq_false_iff_ne.mpr c7
    have c7b1 : (t189 != 9) = true := bne_iff_ne.mpr c7
    exact absurd (Option.some.inj H) (by rw [hrt_]; decide)
  ·rw [if_neg c6] at H
   have c6b0 : (t181 == 0) = false := beq_eq_false_iff_ne.mpr c6
   have c6b1 : (t181 != 0) = true := bne_iff_ne.mpr c6
   exact absurd (Option.some.inj H) (by rw [hrt_]; decide)
 ·rw [if_neg c5] at H
  have c5b0 : (t172 == 0) = false := beq_eq_false_iff_ne.mpr c5
  have c5b1 : (t172 != 0) = true := bne_iff_ne.mpr c5
  exact absurd (Option.some.inj H) (by rw [hrt_]; decide)
end Go.Proofs.YtopaddpclipnjaaQ.P
namespace Go.Proofs.Ytopaddpclipnjaa
open Go.RowKit
theorem ext_list (s : ByteArray) (a b : Nat) : (s.extract a b).data.toList = (s.data.toList.drop a).take (b - a) := by
  rw [ByteArray.data_extract, Array.toList_extract]
theorem bytes_ext {a b : ByteArray} (h : a.data.toList = b.data.toList) : a = b := by
  apply ByteArray.ext
  exact Array.toList_inj.1 h
theorem stampB_iff (gen no : Int) : stampB gen no = true ↔ (1 ≤ gen ∧ gen ≤ 250) ∧ 0 ≤ no ∧ no ≤ 64 := by
  unfold stampB
  simp
  omega
theorem u8_small {x : Int} (h0 : 0 ≤ x) (h1 : x < 256) : ((u8 x).toNat : Int) = x := by
  rw [u8_toNat]
  omega
theorem headL_eq (gen no : Int) (p : List UInt8) : headL gen no p = u8 gen :: u8 no :: u8 p.length :: (p ++ zeros (96 - p.length)) := rfl
theorem sealL_tail (gen no : Int) (p : List UInt8) (h : p.length ≤ 96) : (sealL gen no p).drop 126 = stampL gen no := by
  unfold sealL
  rw [show 126 = (headL gen no p).length + 27 by rw [headL_len gen no p h], List.drop_length_add_append, show 27 = (crcFour (crcMore 0 (headL gen no p))).length + 23 by rfl, List.drop_length_add_append, List.drop_left' (zeros_len 23)]
theorem sealL_two (gen no : Int) (p : List UInt8) : (sealL gen no p).take 2 = stampL gen no := rfl
theorem sealL_head (gen no : Int) (p : List UInt8) (h : p.length ≤ 96) : (sealL gen no p).take 99 = headL gen no p := by
  unfold sealL
  rw [List.take_left' (headL_len gen no p h)]
theorem sealL_sum (gen no : Int) (p : List UInt8) (h : p.length ≤ 96) : ((sealL gen no p).drop 99).take 4 = crcFour (crcMore 0 (headL gen no p)) := by
  unfold sealL
  rw [List.drop_left' (headL_len gen no p h), List.take_left' (crcFour_len _)]
theorem beq_toList {a b : ByteArray} (h : a.data.toList = b.data.toList) : (a.toList == b.toList) = true := by
  rw [ByteArray.toList_eq, ByteArray.toList_eq, h]
  simp
theorem opened (gen no : Int) (p : ByteArray) (hst : stampB gen no = true) (hp : p.size ≤ 96) (x : ByteArray) (hx : x = ⟨(sealL gen no (bytesOf p)).toArray⟩) :
    x.size = 128 ∧ openE x = 0 ∧ at8 x 0 = gen ∧ at8 x 1 = no ∧ partP x = p := by
  have hpl : (bytesOf p).length = p.size := len_data p
  have hpl' : (bytesOf p).length ≤ 96 := by omega
  have hr := (stampB_iff gen no).1 hst
  have hxl : x.data.toList = sealL gen no (bytesOf p) := by rw [hx]
  have hsz : x.size = 128 := by rw [← len_data, hxl, sealL_len _ _ _ hpl']
  have ha0 : at8 x 0 = gen := by
    unfold at8
    rw [hxl]
    show ((u8 gen).toNat : Int) = gen
    exact u8_small (by omega) (by omega)
  have ha1 : at8 x 1 = no := by
    unfold at8
    rw [hxl]
    show ((u8 no).toNat : Int) = no
    exact u8_small (by omega) (by omega)
  have ha2 : at8 x 2 = p.size := by
    unfold at8
    rw [hxl]
    show ((u8 (bytesOf p).length).toNat : Int) = p.size
    rw [hpl]
    exact u8_small (by omega) (by omega)
  have hpp : partP x = p := by
    apply bytes_ext
    unfold partP
    rw [ext_list, hxl, ha2]
    have e : (sealL gen no (bytesOf p)).drop 3 = bytesOf p ++ (zeros (96 - (bytesOf p).length) ++ (crcFour (crcMore 0 (headL gen no (bytesOf p))) ++ (zeros 23 ++ stampL gen no))) := by
      unfold sealL
      rw [headL_eq]
      simp
    rw [e, List.take_left' (by rw [hpl]; omega)]
    rfl
  have hA : openA x = true := by
    unfold openA
    apply beq_toList
    rw [ext_list, ext_list, hxl, sealL_tail _ _ _ hpl']
    show (sealL gen no (bytesOf p)).take 2 = List.take 2 (stampL gen no)
    rw [sealL_two]
    rfl
  have hB : openB x = true := by
    unfold openB
    rw [ByteArray.toList_eq, ext_list, hxl, sealL_head _ _ _ hpl', show 103 - 99 = 4 from rfl, sealL_sum _ _ _ hpl']
    simp
  have hE : openE x = 0 := by
    unfold openE
    rw [if_neg (by simp [hsz]), if_neg (by simp [hA]), if_neg (by simp [hB]), if_neg (by omega), ha0, ha1, hpp, if_pos]
    refine ⟨?_, ?_⟩
    · unfold sealE
      rw [hst, if_neg (by simp), if_pos hp]
    · unfold sealS
      rw [if_pos ⟨hst, hp⟩, hx]
  exact ⟨hsz, hE, ha0, ha1, hpp⟩
theorem openE_zero {x : ByteArray} (h : openE x = 0) : x.size = 128 ∧ stampB (at8 x 0) (at8 x 1) = true ∧ (partP x).size ≤ 96 ∧ x = ⟨(sealL (at8 x 0) (at8 x 1) (bytesOf (partP x))).toArray⟩ := by
  unfold openE at h
  split at h
  · omega
  · rename_i h1
    split at h
    · omega
    · split at h
      · omega
      · split at h
        · omega
        · split at h
          · rename_i h5
            obtain ⟨h6, h7⟩ := h5
            have hst : stampB (at8 x 0) (at8 x 1) = true := by
              cases hs : stampB (at8 x 0) (at8 x 1)
              · unfold sealE at h6
                rw [if_pos hs] at h6
                omega
              · rfl
            have hp : (partP x).size ≤ 96 := by
              unfold sealE at h6
              rw [if_neg (by simp [hst])] at h6
              split at h6
              · assumption
              · omega
            refine ⟨by simpa using h1, hst, hp, ?_⟩
            unfold sealS at h7
            rw [if_pos ⟨hst, hp⟩] at h7
            exact h7.symm
          · omega
end Go.Proofs.Ytopaddpclipnjaa
namespace Go.Proofs.Ytopaddpclipnjaa
open Go.RowKit
theorem over_list (x t : ByteArray) (k : Nat) : (over x t k).data.toList = t.data.toList.take k ++ x.data.toList.drop k := rfl
theorem over_same (x t : ByteArray) (k : Nat) (h : x.data.toList.drop k = t.data.toList.drop k) : over x t k = t := by
  apply bytes_ext
  rw [over_list, h, List.take_append_drop]
theorem over_late (x t : ByteArray) (k : Nat) (ht : t.size = 128) (hk : k ≤ 126) : (over x t k).data.toList.drop 126 = x.data.toList.drop 126 := by
  have hl : (t.data.toList.take k).length = k := by rw [List.length_take, len_data]; omega
  rw [over_list, List.drop_append, hl, List.drop_of_length_le (by omega), List.nil_append, List.drop_drop, show k + (126 - k) = 126 by omega]
theorem openE_ends {x : ByteArray} (h : openE x = 0) : x.data.toList.drop 126 = stampL (at8 x 0) (at8 x 1) := by
  obtain ⟨h1, h2, h3, h4⟩ := openE_zero h
  have : x.data.toList = sealL (at8 x 0) (at8 x 1) (bytesOf (partP x)) := congrArg (fun y : ByteArray => y.data.toList) h4
  rw [this]
  exact sealL_tail _ _ _ (by rw [show (bytesOf (partP x)).length = (partP x).size from len_data _]; exact h3)
structure Sealed (x : ByteArray) (g n : Int) : Prop where
  size : x.size = 128
  stamp : stampB g n = true
  opens : openE x = 0
  first : at8 x 0 = g
  second : at8 x 1 = n
theorem sealed_of (gen no : Int) (p : ByteArray) (hst : stampB gen no = true) (hp : p.size ≤ 96) (x : ByteArray) (hx : x = ⟨(sealL gen no (bytesOf p)).toArray⟩) : Sealed x gen no := by
  obtain ⟨h1, h2, h3, h4, _⟩ := opened gen no p hst hp x hx
  exact ⟨h1, hst, h2, h3, h4⟩
theorem Sealed.tail {x : ByteArray} {g n : Int} (h : Sealed x g n) : x.data.toList.drop 126 = stampL g n := by
  have := openE_ends h.opens
  rwa [h.first, h.second] at this
end Go.Proofs.Ytopaddpclipnjaa
namespace Go.Proofs.Ytopaddpclipnjaa
open Go.RowKit
def sec (xs : List ByteArray) (i : Int) : ByteArray := xs.getD i.toNat ByteArray.empty
theorem sec_get {xs : List ByteArray} {i : Nat} (h : i < xs.length) : sec xs i = xs[i] := by
  unfold sec
  rw [List.getD_eq_getElem?_getD, Int.toNat_natCast, List.getElem?_eq_getElem h]
  rfl
theorem sec_set {xs : List ByteArray} {q : Int} {y : ByteArray} (h0 : 0 ≤ q) (h1 : q < xs.length) (i : Int) (hi : 0 ≤ i) : sec (xs.set q.toNat y) i = if i = q then y else sec xs i := by
  unfold sec
  rw [List.getD_eq_getElem?_getD, List.getElem?_set, List.getD_eq_getElem?_getD]
  by_cases h : i = q
  · subst h
    rw [if_pos rfl, if_pos rfl, if_pos (by omega)]
    rfl
  · rw [if_neg (by omega), if_neg h]
theorem logB_nums {xs : List ByteArray} (h : logB xs = true) : 10 ≤ xs.length ∧ xs.length ≤ 130 ∧ (xs.length : Int) % 2 = 0 ∧ (∀ x ∈ xs, x.size = 128) ∧ rightD xs = true ∧ areaD xs = (xs.length : Int) / 2 - 1 ∧ (xs.length : Int) = 2 * areaD xs + 2 ∧ 4 ≤ areaD xs ∧ areaD xs ≤ 64 := by
  unfold logB at h
  simp only [Bool.and_eq_true, decide_eq_true_eq] at h
  have := rightD_sizes h.1
  unfold areaD
  refine ⟨this.1, this.2.1, h.2, this.2.2, h.1, rfl, ?_, ?_, ?_⟩ <;> omega
theorem sec_size {xs : List ByteArray} (h : logB xs = true) {i : Int} (h0 : 0 ≤ i) (h1 : i < xs.length) : (sec xs i).size = 128 := by
  obtain ⟨n, rfl⟩ : ∃ n : Nat, i = n := ⟨i.toNat, by omega⟩
  rw [sec_get (by omega)]
  exact (logB_nums h).2.2.2.1 _ (List.getElem_mem _)
def topStep (m : Int) (x : ByteArray) : Int := if at8 x 0 ≤ 250 then max m (at8 x 0) else m
def topF (m : Int) (xs : List ByteArray) : Int := xs.foldl topStep m
def hdrG (x : ByteArray) (slot : Int) : Int := if openE x = 0 ∧ openG x % 2 = slot ∧ openN x = 0 ∧ openP x = ⟨#[]⟩ then openG x else 0
def newestD (xs : List ByteArray) : Int := max (hdrG (sec xs 0) 0) (hdrG (sec xs 1) 1)
def recB (x : ByteArray) (g no : Int) : Prop := openE x = 0 ∧ openG x = g ∧ openN x = no
instance (x : ByteArray) (g no : Int) : Decidable (recB x g no) := by unfold recB; infer_instance
def foundD (xs : List ByteArray) (g : Int) : Nat → Nat → List ByteArray
  | 0, _ => []
  | d + 1, i => if recB (sec xs (placeD xs g i)) g (i + 1) then openP (sec xs (placeD xs g i)) :: foundD xs g d (i + 1) else []
def foundA (xs : List ByteArray) (g : Int) : List ByteArray := foundD xs g (areaD xs).toNat 0
def bootS (xs : List ByteArray) : Sto × List ByteArray × Int :=
  if logB xs = false then (Sto.zero, [], 1) else if newestD xs = 0 then (Sto.zero, [], 4) else (⟨xs, newestD xs, (foundA xs (newestD xs)).length, topF 0 xs, false⟩, foundA xs (newestD xs), 0)
theorem openG_range (x : ByteArray) : 0 ≤ openG x ∧ openG x < 256 := by
  unfold openG
  have := at8_range x 0
  split <;> omega
theorem openG_pos {x : ByteArray} (h : openE x = 0) : 1 ≤ openG x ∧ openG x ≤ 250 ∧ openG x = at8 x 0 := by
  have h2 := (stampB_iff _ _).1 (openE_zero h).2.1
  unfold openG
  rw [if_pos h]
  omega
theorem hdrG_range (x : ByteArray) (s : Int) : 0 ≤ hdrG x s ∧ hdrG x s ≤ 250 := by
  unfold hdrG
  split
  · rename_i h
    have := openG_pos h.1
    omega
  · omega
theorem hdrG_at {x : ByteArray} {s : Int} (h : hdrG x s ≠ 0) : hdrG x s = at8 x 0 ∧ hdrG x s % 2 = s := by
  unfold hdrG at *
  split at h
  · rename_i h1
    rw [if_pos h1]
    exact ⟨(openG_pos h1.1).2.2, h1.2.1⟩
  · omega
theorem foundD_len (xs : List ByteArray) (g : Int) : ∀ d i, (foundD xs g d i).length ≤ d := by
  intro d
  induction d with
  | zero => intro i; simp [foundD]
  | succ d ih =>
    intro i
    unfold foundD
    split
    · have := ih (i + 1)
      simp
      omega
    · simp
theorem topF_mono (xs : List ByteArray) : ∀ m, m ≤ topF m xs := by
  induction xs with
  | nil => intro m; exact Int.le_refl _
  | cons x xs ih =>
    intro m
    have h1 := ih (topStep m x)
    show m ≤ topF (topStep m x) xs
    have : m ≤ topStep m x := by unfold topStep; split <;> omega
    omega
theorem topF_ge {xs : List ByteArray} {x : ByteArray} (hx : x ∈ xs) (h : at8 x 0 ≤ 250) : ∀ m, at8 x 0 ≤ topF m xs := by
  induction xs with
  | nil => cases hx
  | cons y xs ih =>
    intro m
    show at8 x 0 ≤ topF (topStep m y) xs
    rcases List.mem_cons.1 hx with rfl | hx
    · have h1 := topF_mono xs (topStep m x)
      have : at8 x 0 ≤ topStep m x := by unfold topStep; rw [if_pos h]; omega
      omega
    · exact ih hx _
theorem topF_le (xs : List ByteArray) (b : Int) (hb : ∀ x ∈ xs, at8 x 0 ≤ 250 → at8 x 0 ≤ b) : ∀ m, m ≤ b → topF m xs ≤ b := by
  induction xs with
  | nil => intro m h; exact h
  | cons y xs ih =>
    intro m h
    show topF (topStep m y) xs ≤ b
    refine ih (fun x hx => hb x (List.mem_cons_of_mem _ hx)) _ ?_
    unfold topStep
    split
    · have := hb y List.mem_cons_self (by assumption)
      omega
    · exact h
theorem placeD_in {xs : List ByteArray} (h : logB xs = true) {g i : Int} (h0 : 0 ≤ i) (h1 : i < areaD xs) : 2 ≤ placeD xs g i ∧ placeD xs g i < xs.length := by
  obtain ⟨_, _, _, _, _, _, hl, _, _⟩ := logB_nums h
  unfold placeD
  rcases (by omega : g % 2 = 0 ∨ g % 2 = 1) with e | e <;> rw [e] <;> omega
theorem placeD_inj {xs : List ByteArray} (h : logB xs = true) {g g' i j : Int} (h0 : 0 ≤ i) (h1 : i < areaD xs) (h2 : 0 ≤ j) (h3 : j < areaD xs) (e : placeD xs g i = placeD xs g' j) : g % 2 = g' % 2 ∧ i = j := by
  unfold placeD at e
  rcases (by omega : g % 2 = 0 ∨ g % 2 = 1) with a | a <;> rcases (by omega : g' % 2 = 0 ∨ g' % 2 = 1) with b | b <;> rw [a, b] at e <;> omega
theorem placeD_len {xs ys : List ByteArray} (h : ys.length = xs.length) (g i : Int) : placeD ys g i = placeD xs g i := by unfold placeD areaD; rw [h]
theorem areaD_len {xs ys : List ByteArray} (h : ys.length = xs.length) : areaD ys = areaD xs := by unfold areaD; rw [h]
def sealT (g no : Int) (p : ByteArray) : ByteArray := ⟨(sealL g no (bytesOf p)).toArray⟩
structure SealT (x : ByteArray) (g no : Int) (p : ByteArray) : Prop where
  size : x.size = 128
  opens : openE x = 0
  gen : openG x = g
  num : openN x = no
  pay : openP x = p
  sealed : Sealed x g no
theorem sealT_is {g no : Int} {p : ByteArray} (hg : 1 ≤ g) (hg2 : g ≤ 250) (hn : 0 ≤ no) (hn2 : no ≤ 64) (hp : p.size ≤ 96) : SealT (sealT g no p) g no p ∧ sealS g no p = sealT g no p := by
  have hst : stampB g no = true := (stampB_iff g no).2 ⟨⟨hg, hg2⟩, hn, hn2⟩
  obtain ⟨h1, h2, h3, h4, h5⟩ := opened g no p hst hp (sealT g no p) rfl
  refine ⟨⟨h1, h2, ?_, ?_, ?_, sealed_of g no p hst hp _ rfl⟩, ?_⟩
  · unfold openG; rw [if_pos h2]; exact h3
  · unfold openN; rw [if_pos h2]; exact h4
  · unfold openP; rw [if_pos h2]; exact h5
  · unfold sealS; rw [if_pos ⟨hst, hp⟩]; rfl
def tl (x : ByteArray) : List UInt8 := x.data.toList.drop 126
def tl8 (x : ByteArray) : Int := at8 x 126
theorem tl8_of {x : ByteArray} {g n : Int} (h : tl x = stampL g n) (hg : 0 ≤ g ∧ g < 256) : tl8 x = g := by
  unfold tl at h
  unfold tl8 at8
  have : x.data.toList.getD 126 0 = (x.data.toList.drop 126).getD 0 0 := by
    rw [List.getD_eq_getElem?_getD, List.getD_eq_getElem?_getD, List.getElem?_drop]
  rw [this, h]
  show ((u8 g).toNat : Int) = g
  exact u8_small hg.1 hg.2
theorem tl_open {x : ByteArray} (h : openE x = 0) : tl x = stampL (openG x) (openN x) := by
  unfold openG openN
  rw [if_pos h, if_pos h]
  exact openE_ends h
theorem tl_over (X T : ByteArray) (hT : T.size = 128) (k : Nat) (hk : k ≤ 126) : tl (over X T k) = tl X := over_late X T k hT hk
theorem over_sz {X T : ByteArray} (hX : X.size = 128) (hT : T.size = 128) (k : Nat) (hk : k ≤ 128) : (over X T k).size = 128 := by
  rw [← len_data, over_list, List.length_append, List.length_take, List.length_drop, len_data, len_data, hX, hT]
  omega
theorem at8_over {X T : ByteArray} (hX : X.size = 128) (hT : T.size = 128) {k : Nat} (hk : k ≤ 128) (i : Nat) : at8 (over X T k) i = if i < k then at8 T i else at8 X i := by
  have hl : (T.data.toList.take k).length = k := by rw [List.length_take, len_data]; omega
  unfold at8
  rw [over_list, List.getD_eq_getElem?_getD, List.getElem?_append, hl]
  split
  · rw [List.getElem?_take_of_lt (by assumption), List.getD_eq_getElem?_getD]
  · rw [List.getElem?_drop, show k + (i - k) = i by omega, List.getD_eq_getElem?_getD]
theorem over_tl {X T p : ByteArray} {g no : Int} (hX : X.size = 128) (hT : SealT T g no p) (hg : 0 ≤ g ∧ g < 256) (k : Nat) (hk : k ≤ 128) (hx : tl X ≠ stampL g no) : over X T k = T ∨ tl (over X T k) ≠ stampL g no := by
  rcases Nat.lt_or_ge 126 k with d | d
  · by_cases h : tl (over X T k) = stampL g no
    · left
      apply bytes_ext
      have h6 : (over X T k).data.toList.take 126 = T.data.toList.take 126 := by
        rw [over_list, List.take_append_of_le_length (by rw [List.length_take, len_data, hT.size]; omega), List.take_take, Nat.min_eq_left (by omega)]
      rw [← List.take_append_drop 126 (over X T k).data.toList, ← List.take_append_drop 126 T.data.toList, h6]
      unfold tl at h
      rw [h, hT.sealed.tail]
    · exact .inr h
  · right
    rw [tl_over X T hT.size k d]
    exact hx
theorem not_rec {x : ByteArray} {g no : Int} (h : tl x ≠ stampL g no) : ¬ recB x g no := by
  rintro ⟨h1, h2, h3⟩
  have := tl_open h1
  rw [h2, h3] at this
  exact h this
end Go.Proofs.Ytopaddpclipnjaa
namespace Go.Proofs.Ytopaddpclipnjaa
open Go.RowKit
structure InvD (xs : List ByteArray) (g top : Int) (h : List ByteArray) : Prop where
  log : logB xs = true
  g1 : 1 ≤ g
  gt : g ≤ top
  t2 : top ≤ 250
  len : (h.length : Int) ≤ areaD xs
  head : hdrG (sec xs (g % 2)) (g % 2) = g
  other : hdrG (sec xs (1 - g % 2)) (1 - g % 2) < g
  recs : ∀ (i : Nat) (hi : i < h.length), recB (sec xs (placeD xs g i)) g (i + 1) ∧ openP (sec xs (placeD xs g i)) = h[i]
  next : ∀ i : Nat, h.length ≤ i → (i : Int) < areaD xs → tl (sec xs (placeD xs g i)) ≠ stampL g (i + 1)
  mine : ∀ i : Nat, (i : Int) < areaD xs → at8 (sec xs (placeD xs g i)) 0 ≤ g
  firsts : ∀ i : Int, 0 ≤ i → i < xs.length → at8 (sec xs i) 0 ≤ top
  tails : ∀ i : Int, 0 ≤ i → i < xs.length → tl8 (sec xs i) ≤ at8 (sec xs i) 0
theorem par (g : Int) : g % 2 = 0 ∨ g % 2 = 1 := by omega
theorem InvD.newest {xs : List ByteArray} {g top : Int} {h : List ByteArray} (H : InvD xs g top h) : newestD xs = g := by
  have h1 := H.head
  have h2 := H.other
  unfold newestD
  rcases par g with e | e <;> rw [e] at h1 h2
  · rw [show (1 : Int) - 0 = 1 by omega] at h2
    omega
  · rw [show (1 : Int) - 1 = 0 by omega] at h2
    omega
theorem InvD.found {xs : List ByteArray} {g top : Int} {h : List ByteArray} (H : InvD xs g top h) (d : Nat) : ∀ i : Nat, (i : Int) + d = areaD xs → foundD xs g d i = h.drop i := by
  have hl := H.len
  induction d with
  | zero =>
    intro i hi
    unfold foundD
    rw [List.drop_of_length_le (by omega)]
  | succ d ih =>
    intro i hi
    unfold foundD
    by_cases h1 : i < h.length
    · obtain ⟨r1, r2⟩ := H.recs i h1
      rw [if_pos r1, r2, ih (i + 1) (by omega)]
      exact (List.drop_eq_getElem_cons h1).symm
    · rw [if_neg (not_rec (H.next i (by omega) (by omega))), List.drop_of_length_le (by omega)]
theorem InvD.boot {xs : List ByteArray} {g top : Int} {h : List ByteArray} (H : InvD xs g top h) : bootS xs = (⟨xs, g, h.length, topF 0 xs, false⟩, h, 0) := by
  have ha := (logB_nums H.log).2.2.2.2.2.2.2
  have hf : foundA xs g = h := by
    unfold foundA
    rw [H.found _ 0 (by omega), List.drop_zero]
  unfold bootS
  rw [H.newest, hf, if_neg (by rw [H.log]; simp), if_neg (by have := H.g1; omega)]
structure Wrote (xs : List ByteArray) (q : Int) (Y : ByteArray) (ys : List ByteArray) : Prop where
  log : logB ys = true
  len : ys.length = xs.length
  here : sec ys q = Y
  far : ∀ i : Int, 0 ≤ i → i ≠ q → sec ys i = sec xs i
theorem wrote_set {xs : List ByteArray} (hl : logB xs = true) {q : Int} (h0 : 0 ≤ q) (h1 : q < xs.length) {Y : ByteArray} (hY : Y.size = 128) : Wrote xs q Y (xs.set q.toNat Y) := by
  refine ⟨?_, List.length_set .., ?_, ?_⟩
  · obtain ⟨n1, n2, n3, hsz, _⟩ := logB_nums hl
    unfold logB rightD
    rw [List.length_set]
    have ha : (xs.set q.toNat Y).any badSize = false := by
      rw [List.any_eq_false]
      intro x hx
      have : x.size = 128 := by
        rcases List.mem_or_eq_of_mem_set hx with hx | rfl
        · exact hsz x hx
        · exact hY
      simp [badSize, this]
    rw [ha]
    simp
    omega
  · rw [sec_set h0 h1 q h0, if_pos rfl]
  · intro i hi hne
    rw [sec_set h0 h1 i hi, if_neg hne]
theorem tearL_set {xs : List ByteArray} (hl : logB xs = true) {q : Int} (h0 : 0 ≤ q) (h1 : q < xs.length) {T : ByteArray} (hT : T.size = 128) {k : Int} (k0 : 0 ≤ k) (k1 : k ≤ 128) :
    tearL xs q T k = xs.set q.toNat (over (sec xs q) T k.toNat) := by
  obtain ⟨n1, n2, n3, hsz, hr, _⟩ := logB_nums hl
  have he : tearE xs q T k = 0 := by
    unfold tearE
    rw [mayD_in hr h0 h1, if_neg (by omega), if_neg (by omega), if_neg (by omega)]
  unfold tearL
  rw [if_pos he]
  rfl
theorem tear_wrote {xs : List ByteArray} (hl : logB xs = true) {q : Int} (h0 : 0 ≤ q) (h1 : q < xs.length) {T : ByteArray} (hT : T.size = 128) {k : Int} (k0 : 0 ≤ k) (k1 : k ≤ 128) :
    Wrote xs q (over (sec xs q) T k.toNat) (tearL xs q T k) := by
  rw [tearL_set hl h0 h1 hT k0 k1]
  exact wrote_set hl h0 h1 (over_sz (sec_size hl h0 h1) hT _ (by omega))
theorem tl8_T {T p : ByteArray} {g no : Int} (hT : SealT T g no p) : tl8 T = g ∧ at8 T 0 = g := by
  have hr := (stampB_iff _ _).1 hT.sealed.stamp
  exact ⟨tl8_of hT.sealed.tail (by omega), hT.sealed.first⟩
theorem over_ends {X T p : ByteArray} {g no b : Int} (hX : X.size = 128) (hT : SealT T g no p) {k : Nat} (hk : k ≤ 128) (ht : tl8 X ≤ at8 X 0) (hb : at8 X 0 ≤ g) : at8 (over X T k) 0 ≤ g ∧ tl8 (over X T k) ≤ at8 (over X T k) 0 := by
  obtain ⟨e1, e2⟩ := tl8_T hT
  unfold tl8 at *
  rw [at8_over hX hT.size hk, at8_over hX hT.size hk]
  split <;> split <;> omega
theorem over_all {X T : ByteArray} (hX : X.size = 128) (hT : T.size = 128) : over X T 128 = T := by
  apply over_same
  rw [List.drop_of_length_le (by rw [len_data]; omega), List.drop_of_length_le (by rw [len_data]; omega)]
theorem InvD.wrote_far {xs ys : List ByteArray} {g top : Int} {h : List ByteArray} (H : InvD xs g top h) {q : Int} {Y : ByteArray} (h0 : 0 ≤ q) (h1 : q < xs.length) (W : Wrote xs q Y ys)
    (hf : at8 Y 0 ≤ top) (ht : tl8 Y ≤ at8 Y 0) (hq : q ≠ g % 2) (hq2 : q = 1 - g % 2 → hdrG Y (1 - g % 2) < g)
    (hr : ∀ i : Nat, (i : Int) < areaD xs → q = placeD xs g i → h.length ≤ i ∧ tl Y ≠ stampL g (i + 1) ∧ at8 Y 0 ≤ g) : InvD ys g top h := by
  have hn := logB_nums H.log
  have hA : areaD ys = areaD xs := areaD_len W.len
  have hP : ∀ i : Nat, placeD ys g i = placeD xs g i := fun i => placeD_len W.len g i
  have hfar : ∀ i : Nat, (i : Int) < areaD xs → q ≠ placeD xs g i → sec ys (placeD ys g i) = sec xs (placeD xs g i) := by
    intro i hi hne
    have := placeD_in H.log (g := g) (i := i) (by omega) hi
    rw [hP, W.far _ (by omega) (Ne.symm hne)]
  refine ⟨W.log, H.g1, H.gt, H.t2, by rw [hA]; exact H.len, ?_, ?_, ?_, ?_, ?_, ?_, ?_⟩
  · rw [W.far _ (by omega) (Ne.symm hq)]
    exact H.head
  · by_cases e : q = 1 - g % 2
    · rw [← e, W.here, e]
      exact hq2 e
    · rw [W.far _ (by omega) (Ne.symm e)]
      exact H.other
  · intro i hi
    have hia : (i : Int) < areaD xs := by have := H.len; omega
    rw [hfar i hia (fun e => by have := (hr i hia e).1; omega)]
    exact H.recs i hi
  · intro i hi hia
    rw [hA] at hia
    by_cases e : q = placeD xs g i
    · rw [hP, ← e, W.here]
      exact (hr i hia e).2.1
    · rw [hfar i hia e]
      exact H.next i hi hia
  · intro i hia
    rw [hA] at hia
    by_cases e : q = placeD xs g i
    · rw [hP, ← e, W.here]
      exact (hr i hia e).2.2
    · rw [hfar i hia e]
      exact H.mine i hia
  · intro i hi hi2
    rw [W.len] at hi2
    by_cases e : i = q
    · rw [e, W.here]; exact hf
    · rw [W.far i hi e]; exact H.firsts i hi hi2
  · intro i hi hi2
    rw [W.len] at hi2
    by_cases e : i = q
    · rw [e, W.here]; exact ht
    · rw [W.far i hi e]; exact H.tails i hi hi2
theorem InvD.append {xs ys : List ByteArray} {g top : Int} {h : List ByteArray} (H : InvD xs g top h) (hl : (h.length : Int) < areaD xs) {p : ByteArray} (hp : p.size ≤ 96) {T : ByteArray} (hT : SealT T g (h.length + 1) p) (W : Wrote xs (placeD xs g h.length) T ys) : InvD ys g top (h ++ [p]) := by
  have hn := logB_nums H.log
  have hg := H.g1
  have hgt := H.gt
  have hA : areaD ys = areaD xs := areaD_len W.len
  have hP : ∀ i : Nat, placeD ys g i = placeD xs g i := fun i => placeD_len W.len g i
  have hpl := placeD_in H.log (g := g) (i := h.length) (by omega) hl
  obtain ⟨e1, e2⟩ := tl8_T hT
  have hfar : ∀ i : Nat, (i : Int) < areaD xs → i ≠ h.length → sec ys (placeD ys g i) = sec xs (placeD xs g i) := by
    intro i hi hne
    have := placeD_in H.log (g := g) (i := i) (by omega) hi
    rw [hP, W.far _ (by omega) (fun e => hne (by have := (placeD_inj H.log (by omega) hi (by omega) hl e).2; omega))]
  refine ⟨W.log, hg, hgt, H.t2, by rw [hA]; simp; omega, ?_, ?_, ?_, ?_, ?_, ?_, ?_⟩
  · rw [W.far _ (by omega) (by omega)]
    exact H.head
  · rw [W.far _ (by omega) (by omega)]
    exact H.other
  · intro i hi
    simp only [List.length_append, List.length_singleton] at hi
    by_cases e : i = h.length
    · subst e
      rw [hP, W.here]
      exact ⟨⟨hT.opens, hT.gen, hT.num⟩, by rw [hT.pay]; simp⟩
    · rw [hfar i (by omega) e]
      have := H.recs i (by omega)
      rw [List.getElem_append_left (by omega)]
      exact this
  · intro i hi hia
    simp only [List.length_append, List.length_singleton] at hi
    rw [hA] at hia
    rw [hfar i hia (by omega)]
    exact H.next i (by omega) hia
  · intro i hia
    rw [hA] at hia
    by_cases e : i = h.length
    · subst e
      rw [hP, W.here]
      omega
    · rw [hfar i hia e]
      exact H.mine i hia
  · intro i hi hi2
    rw [W.len] at hi2
    by_cases e : i = placeD xs g h.length
    · rw [e, W.here]; omega
    · rw [W.far i hi e]; exact H.firsts i hi hi2
  · intro i hi hi2
    rw [W.len] at hi2
    by_cases e : i = placeD xs g h.length
    · rw [e, W.here]; omega
    · rw [W.far i hi e]; exact H.tails i hi hi2
theorem InvD.append_any {xs : List ByteArray} {g top : Int} {h : List ByteArray} (H : InvD xs g top h) (hl : (h.length : Int) < areaD xs) {p : ByteArray} (hp : p.size ≤ 96) {k : Int} (k0 : 0 ≤ k) (k1 : k ≤ 128) :
    (InvD (tearL xs (placeD xs g h.length) (sealS g (h.length + 1) p) k) g top h ∧ k ≠ 128) ∨ (InvD (tearL xs (placeD xs g h.length) (sealS g (h.length + 1) p) k) g top (h ++ [p]) ∧ 126 < k) := by
  have hn := logB_nums H.log
  have hg := H.g1
  have hgt := H.gt
  have ht2 := H.t2
  have hpl := placeD_in H.log (g := g) (i := h.length) (by omega) hl
  obtain ⟨hT, hTe⟩ := sealT_is (g := g) (no := (h.length : Int) + 1) (p := p) hg (by omega) (by omega) (by omega) hp
  rw [hTe]
  have W := tear_wrote H.log (q := placeD xs g h.length) (by omega) hpl.2 hT.size k0 k1
  have hX : (sec xs (placeD xs g h.length)).size = 128 := sec_size H.log (by omega) hpl.2
  have hnx := H.next h.length (Nat.le_refl _) hl
  obtain ⟨h1, h2⟩ := over_ends (b := 0) hX hT (k := k.toNat) (by omega) (H.tails _ (by omega) hpl.2) (H.mine _ hl)
  have hcase : over (sec xs (placeD xs g h.length)) (sealT g (h.length + 1) p) k.toNat = sealT g (h.length + 1) p ∧ 126 < k ∨ tl (over (sec xs (placeD xs g h.length)) (sealT g (h.length + 1) p) k.toNat) ≠ stampL g (h.length + 1) ∧ k ≠ 128 := by
    by_cases hk : k = 128
    · subst hk
      exact .inl ⟨over_all hX hT.size, by omega⟩
    · rcases Int.lt_or_le 126 k with d | d
      · rcases over_tl hX hT (by omega) k.toNat (by omega) hnx with e | e
        · exact .inl ⟨e, d⟩
        · exact .inr ⟨e, hk⟩
      · right
        rw [tl_over _ _ hT.size _ (by omega)]
        exact ⟨hnx, hk⟩
  rcases hcase with ⟨e, ek⟩ | ⟨e, ek⟩
  · right
    rw [e] at W
    exact ⟨H.append hl hp hT W, ek⟩
  · left
    refine ⟨H.wrote_far (by omega) hpl.2 W (by omega) h2 (by omega) (fun e => by omega) (fun i hi e2 => ?_), ek⟩
    have := (placeD_inj H.log (by omega) hl (by omega) hi e2).2
    obtain rfl : i = h.length := by omega
    exact ⟨Nat.le_refl _, e, h1⟩
end Go.Proofs.Ytopaddpclipnjaa
namespace Go.Proofs.Ytopaddpclipnjaa
open Go.RowKit
structure NewG (xs : List ByteArray) (g g' : Int) (h : List ByteArray) (l : List ByteArray) (i : Nat) : Prop where
  inv : InvD xs g g' h
  lt : g < g'
  par : g' % 2 = 1 - g % 2
  room : (l.length : Int) ≤ areaD xs
  le : i ≤ l.length
  recs : ∀ (j : Nat) (hj : j < l.length), j < i → recB (sec xs (placeD xs g' j)) g' (j + 1) ∧ openP (sec xs (placeD xs g' j)) = l[j]
  next : ∀ j : Nat, i ≤ j → (j : Int) < areaD xs → tl (sec xs (placeD xs g' j)) ≠ stampL g' (j + 1)
  hdr : tl (sec xs (g' % 2)) ≠ stampL g' 0
theorem tl_gen {x : ByteArray} {g n : Int} (hg : 0 ≤ g ∧ g < 256) (h : tl8 x < g) : tl x ≠ stampL g n := by
  intro e
  have := tl8_of e hg
  omega
theorem place_apart {xs : List ByteArray} (hl : logB xs = true) {g g' : Int} {i j : Nat} (hp : g' % 2 = 1 - g % 2) (hi : (i : Int) < areaD xs) (hj : (j : Int) < areaD xs) : placeD xs g' i ≠ placeD xs g j := by
  intro e
  have := (placeD_inj hl (by omega) hi (by omega) hj e).1
  omega
theorem NewG.old {xs ys : List ByteArray} {g g' : Int} {h l : List ByteArray} {i : Nat} (N : NewG xs g g' h l i) (hi : (i : Int) < areaD xs) {p : ByteArray} {T : ByteArray} (hT : SealT T g' (i + 1) p) {k : Nat} (hk : k ≤ 128) (W : Wrote xs (placeD xs g' i) (over (sec xs (placeD xs g' i)) T k) ys) : InvD ys g g' h := by
  have hn := logB_nums N.inv.log
  have hg := N.inv.g1
  have hpl := placeD_in N.inv.log (g := g') (i := i) (by omega) hi
  have hX : (sec xs (placeD xs g' i)).size = 128 := sec_size N.inv.log (by omega) hpl.2
  obtain ⟨h1, h2⟩ := over_ends (b := 0) hX hT hk (N.inv.tails _ (by omega) hpl.2) (N.inv.firsts _ (by omega) hpl.2)
  exact N.inv.wrote_far (by omega) hpl.2 W h1 h2 (by omega) (fun e => by omega) (fun j hj e => absurd e (place_apart N.inv.log N.par hi hj))
theorem NewG.step {xs ys : List ByteArray} {g g' : Int} {h l : List ByteArray} {i : Nat} (N : NewG xs g g' h l i) (hi : i < l.length) {T : ByteArray} (hT : SealT T g' (i + 1) l[i]) (W : Wrote xs (placeD xs g' i) T ys) : NewG ys g g' h l (i + 1) := by
  have hn := logB_nums N.inv.log
  have hg := N.inv.g1
  have hr := N.room
  have hia : (i : Int) < areaD xs := by omega
  have hpl := placeD_in N.inv.log (g := g') (i := i) (by omega) hia
  have hX : (sec xs (placeD xs g' i)).size = 128 := sec_size N.inv.log (by omega) hpl.2
  have hA : areaD ys = areaD xs := areaD_len W.len
  have hP : ∀ j : Nat, placeD ys g' j = placeD xs g' j := fun j => placeD_len W.len g' j
  have hfar : ∀ j : Nat, (j : Int) < areaD xs → j ≠ i → sec ys (placeD ys g' j) = sec xs (placeD xs g' j) := by
    intro j hj hne
    have := placeD_in N.inv.log (g := g') (i := j) (by omega) hj
    rw [hP, W.far _ (by omega) (fun e => hne (by have := (placeD_inj N.inv.log (by omega) hj (by omega) hia e).2; omega))]
  have hold : InvD ys g g' h := by
    refine N.old hia hT (k := 128) (by omega) ?_
    rw [over_all hX hT.size]
    exact W
  refine ⟨hold, N.lt, N.par, by rw [hA]; exact hr, by omega, ?_, ?_, ?_⟩
  · intro j hj hji
    by_cases e : j = i
    · subst e
      rw [hP, W.here]
      exact ⟨⟨hT.opens, hT.gen, hT.num⟩, hT.pay⟩
    · rw [hfar j (by omega) e]
      exact N.recs j hj (by omega)
  · intro j hj hja
    rw [hA] at hja
    rw [hfar j hja (by omega)]
    exact N.next j (by omega) hja
  · rw [W.far _ (by omega) (by omega)]
    exact N.hdr
theorem NewG.done {xs ys : List ByteArray} {g g' : Int} {h l : List ByteArray} (N : NewG xs g g' h l l.length) {T : ByteArray} (hT : SealT T g' 0 ⟨#[]⟩) (W : Wrote xs (g' % 2) T ys) : InvD ys g' g' l := by
  have hn := logB_nums N.inv.log
  have hg := N.inv.g1
  have hlt := N.lt
  have hpar := N.par
  have hA : areaD ys = areaD xs := areaD_len W.len
  obtain ⟨e1, e2⟩ := tl8_T hT
  have hfar : ∀ j : Nat, (j : Int) < areaD xs → sec ys (placeD ys g' j) = sec xs (placeD xs g' j) := by
    intro j hj
    have := placeD_in N.inv.log (g := g') (i := j) (by omega) hj
    rw [placeD_len W.len, W.far _ (by omega) (by omega)]
  refine ⟨W.log, by omega, by omega, N.inv.t2, by rw [hA]; exact N.room, ?_, ?_, ?_, ?_, ?_, ?_, ?_⟩
  · rw [W.here]
    unfold hdrG
    rw [if_pos ⟨hT.opens, by rw [hT.gen], hT.num, hT.pay⟩]
    exact hT.gen
  · rw [W.far _ (by omega) (by omega), show 1 - g' % 2 = g % 2 by omega, N.inv.head]
    exact hlt
  · intro j hj
    have hr := N.room
    rw [hfar j (by omega)]
    exact N.recs j hj hj
  · intro j hj hja
    rw [hA] at hja
    rw [hfar j hja]
    exact N.next j hj hja
  · intro j hja
    rw [hA] at hja
    rw [hfar j hja]
    have := placeD_in N.inv.log (g := g') (i := j) (by omega) hja
    exact N.inv.firsts _ (by omega) this.2
  · intro i hi hi2
    rw [W.len] at hi2
    by_cases e : i = g' % 2
    · rw [e, W.here]; omega
    · rw [W.far i hi e]; exact N.inv.firsts i hi hi2
  · intro i hi hi2
    rw [W.len] at hi2
    by_cases e : i = g' % 2
    · rw [e, W.here]; omega
    · rw [W.far i hi e]; exact N.inv.tails i hi hi2
theorem zero_at8 (i : Nat) : at8 z128 i = 0 := by
  unfold at8
  rw [show z128.data.toList = List.replicate 128 0 from rfl, List.getD_eq_getElem?_getD, List.getElem?_replicate]
  split <;> rfl
theorem inv_new {n : Int} (h0 : 10 ≤ n) (h1 : n ≤ 130) (h2 : n % 2 = 0) : InvD (tearL (newL n) 1 (sealS 1 0 ⟨#[]⟩) 128) 1 1 [] := by
  have hl : (newL n).length = n.toNat := by unfold newL; rw [if_pos ⟨h0, h1⟩, List.length_replicate]
  have hz : ∀ i : Int, 0 ≤ i → i < n → sec (newL n) i = z128 := by
    intro i a b
    obtain ⟨j, rfl⟩ : ∃ j : Nat, i = j := ⟨i.toNat, by omega⟩
    rw [sec_get (by omega)]
    have : newL n = List.replicate n.toNat z128 := by unfold newL; rw [if_pos ⟨h0, h1⟩]
    simp only [this, List.getElem_replicate]
  have hsz : z128.size = 128 := by
    rw [← len_data]
    exact List.length_replicate
  have hlog : logB (newL n) = true := by
    unfold logB rightD
    have ha : (newL n).any badSize = false := by
      rw [List.any_eq_false]
      intro x hx
      have : x = z128 := by unfold newL at hx; rw [if_pos ⟨h0, h1⟩] at hx; exact List.eq_of_mem_replicate hx
      simp [badSize, this, hsz]
    rw [ha, hl]
    simp
    omega
  have hn := logB_nums hlog
  obtain ⟨hT, hTe⟩ := sealT_is (g := 1) (no := 0) (p := ⟨#[]⟩) (by omega) (by omega) (by omega) (by omega) (by decide)
  rw [hTe]
  have W := tear_wrote hlog (q := 1) (by omega) (by omega) hT.size (k := 128) (by omega) (by omega)
  rw [hz 1 (by omega) (by omega), show (128 : Int).toNat = 128 from rfl, over_all hsz hT.size] at W
  obtain ⟨e1, e2⟩ := tl8_T hT
  have hA := areaD_len W.len
  have hzn : tl8 z128 = 0 := zero_at8 126
  have hfar : ∀ i : Int, 0 ≤ i → i < n → i ≠ 1 → sec (tearL (newL n) 1 (sealT 1 0 ⟨#[]⟩) 128) i = z128 := fun i a b c => by rw [W.far i a c, hz i a b]
  have hpl : ∀ i : Nat, (i : Int) < areaD (newL n) → sec (tearL (newL n) 1 (sealT 1 0 ⟨#[]⟩) 128) (placeD (tearL (newL n) 1 (sealT 1 0 ⟨#[]⟩) 128) 1 i) = z128 := by
    intro i hi
    have := placeD_in hlog (g := 1) (i := i) (by omega) hi
    rw [placeD_len W.len]
    exact hfar _ (by omega) (by omega) (by omega)
  refine ⟨W.log, by omega, by omega, by omega, by rw [hA]; simp; omega, ?_, ?_, ?_, ?_, ?_, ?_, ?_⟩
  · show hdrG (sec _ 1) 1 = 1
    rw [W.here]
    unfold hdrG
    rw [if_pos ⟨hT.opens, by rw [hT.gen]; rfl, hT.num, hT.pay⟩]
    exact hT.gen
  · show hdrG (sec _ 0) 0 < 1
    rw [hfar 0 (by omega) (by omega) (by omega)]
    unfold hdrG
    split
    · rename_i hc
      have h3 := openG_pos hc.1
      rw [zero_at8] at h3
      omega
    · omega
  · intro i hi
    simp at hi
  · intro i _ hi
    rw [hA] at hi
    rw [hpl i hi]
    exact tl_gen (by omega) (by omega)
  · intro i hi
    rw [hA] at hi
    rw [hpl i hi, zero_at8]
    omega
  · intro i hi hi2
    by_cases e : i = 1
    · rw [e, W.here]; omega
    · rw [hfar i hi (by rw [W.len] at hi2; omega) e, zero_at8]; omega
  · intro i hi hi2
    by_cases e : i = 1
    · rw [e, W.here]; omega
    · rw [hfar i hi (by rw [W.len] at hi2; omega) e, zero_at8, hzn]; omega
end Go.Proofs.Ytopaddpclipnjaa
namespace Go.Proofs.Ytopaddpclipnjaa
open Go.RowKit
structure Has (s : Sto) (h : List ByteArray) : Prop where
  inv : InvD s.xs s.gen s.top h
  used : s.used = h.length
  up : s.down = false
theorem Has.ok {s : Sto} {h : List ByteArray} (H : Has s h) : s.okB = true := by
  have i := H.inv
  unfold Sto.okB inB
  rw [i.log, H.used]
  have h1 := i.g1
  have h2 := i.gt
  have h3 := i.t2
  have h4 := i.len
  simp
  omega
theorem mayS_go {s : Sto} (hs : s.okB = true) (hd : s.down = false) {l : List ByteArray} {fs : List Flt} (hl : ∀ p ∈ l, p.size ≤ 96) (hf : fs.all fltB = true) : mayS s l fs = 0 := by
  unfold mayS
  have h1 : (fs.any fun f => !fltB f) = false := by
    rw [List.any_eq_false]
    intro f hm
    have := List.all_eq_true.1 hf f hm
    simp [this]
  have h2 : (l.any fun p => decide (96 < p.size)) = false := by
    rw [List.any_eq_false]
    intro p hm
    have := hl p hm
    simp
    omega
  rw [hs, h1, h2, hd]
  rfl
theorem Has.append {s : Sto} {h : List ByteArray} (H : Has s h) {p : ByteArray} (hp : p.size ≤ 96) {f : Flt} (hf : fltB f = true) :
    (appendS s p f = (Sto.zero, 5) ∧ (h.length : Int) = areaD s.xs) ∨
    ((h.length : Int) < areaD s.xs ∧ appendS s p f = appS s p f ∧
      ((f.kind = 1 ∧ appS s p f = (s, 8)) ∨
       (f.kind = 2 ∧ ∃ ys, appS s p f = ({ s with xs := ys, down := true }, 9) ∧ ((InvD ys s.gen s.top h) ∨ (InvD ys s.gen s.top (h ++ [p]) ∧ 126 < f.k))) ∨
       (f.kind = 0 ∧ ∃ ys, appS s p f = ({ s with xs := ys, used := s.used + 1 }, 0) ∧ InvD ys s.gen s.top (h ++ [p])))) := by
  have hfl : 0 ≤ f.kind ∧ f.kind ≤ 2 ∧ 0 ≤ f.k ∧ f.k ≤ 128 := by
    unfold fltB at hf
    simp only [Bool.and_eq_true, decide_eq_true_eq] at hf
    exact ⟨hf.1.1.1, hf.1.1.2, hf.1.2, hf.2⟩
  have hm : mayS s [p] [f] = 0 := mayS_go H.ok H.up (by simpa using hp) (by simpa using hf)
  have hu := H.used
  have hlen := H.inv.len
  unfold appendS
  rw [if_pos hm]
  by_cases hA : s.used = areaD s.xs
  · left
    rw [if_pos hA]
    exact ⟨rfl, by omega⟩
  · right
    rw [if_neg hA]
    refine ⟨by omega, rfl, ?_⟩
    unfold appS
    by_cases k1 : f.kind = 1
    · rw [if_pos k1]
      exact .inl ⟨k1, rfl⟩
    · rw [if_neg k1]
      by_cases k2 : f.kind = 2
      · rw [if_pos k2, hu]
        right; left
        refine ⟨k2, _, rfl, ?_⟩
        rcases H.inv.append_any (by omega) hp hfl.2.2.1 hfl.2.2.2 with ⟨h1, _⟩ | ⟨h1, h2⟩
        · exact .inl h1
        · exact .inr ⟨h1, h2⟩
      · rw [if_neg k2]
        right; right
        refine ⟨by omega, _, rfl, ?_⟩
        rw [hu]
        rcases H.inv.append_any (by omega) hp (k := 128) (by omega) (by omega) with ⟨_, h1⟩ | ⟨h1, _⟩
        · exact absurd rfl h1
        · exact h1
theorem nextG_facts (s : Sto) : s.top < nextG s ∧ nextG s ≤ s.top + 2 ∧ nextG s % 2 = 1 - s.gen % 2 := by
  unfold nextG
  split <;> omega
def new0 (n : Int) : Sto := ⟨tearL (newL n) 1 (sealS 1 0 ⟨#[]⟩) 128, 1, 0, 1, false⟩
theorem has_new {n : Int} (h0 : 10 ≤ n) (h1 : n ≤ 130) (h2 : n % 2 = 0) : Has (new0 n) [] := ⟨inv_new h0 h1 h2, rfl, rfl⟩
theorem InvD.has {xs : List ByteArray} {g top : Int} {h : List ByteArray} (H : InvD xs g top h) {u : Int} (hu : u = h.length) : Has ⟨xs, g, u, top, false⟩ h := ⟨H, hu, rfl⟩
end Go.Proofs.Ytopaddpclipnjaa
namespace Go.Proofs.YtopaddpclipnjaaQ.P
open Go.RowKit Go.Proofs.YtopaddpclipnjaaW.PrintWords Go.Proofs.YtopaddpclipnjaaW.PrintLast Go.Proofs.YtopaddpclipnjaaW.PrintMore
attribute [local go_sem] max2_int min2_int max_two min_two max_three min_three max_four min_four
def foghornref04_Area.f (l0_0 : List ByteArray) : Option (Int) := some (wrap64 ((wrap64 ((l0_0.length : Int) / 2)) - 1))
end Go.Proofs.YtopaddpclipnjaaQ.P
namespace Go.Proofs.YtopaddpclipnjaaQ.P
open Go.RowKit Go.Proofs.YtopaddpclipnjaaW.PrintWords Go.Proofs.YtopaddpclipnjaaW.PrintLast Go.Proofs.YtopaddpclipnjaaW.PrintMore
attribute [local go_sem] max2_int min2_int max_two min_two max_three min_three max_four min_four
def foghornref04_newest.l0 : Nat → Int → Int → List ByteArray → Option (Int)
 | 0, _, _, _ => none
 | k + 1, x3, x4, x244000 => if x4 < 2 then (if 0 ≤ x4 then (if x4 < (x244000.length : Int) then ((foghornref03_Open.f (rdOf ByteArray.empty x244000 x4)).bind fun bt245 => (if bt245.2.2.2 = 0 then (if (Int.tmod bt245.1 2) = x4 then (if bt245.2.1 = 0 then (if bt245.2.2.1.toList = ([] : List UInt8) then (if bt245.1 > x3 then (foghornref04_newest.l0 k bt245.1 (wrap64 (x4 + 1)) x244000) else (foghornref04_newest.l0 k x3 (wrap64 (x4 + 1)) x244000)) else (foghornref04_newest.l0 k x3 (wrap64 (x4 + 1)) x244000)) else (foghornref04_newest.l0 k x3 (wrap64 (x4 + 1)) x244000)) else (foghornref04_newest.l0 k x3 (wrap64 (x4 + 1)) x244000)) else (foghornref04_newest.l0 k x3 (wrap64 (x4 + 1)) x244000))) else (none)) else (none)) else (some x3)
def foghornref04_newest.f (k : Nat) (l0_0 : List ByteArray) : Option (Int) := foghornref04_newest.l0 k 0 0 l0_0
theorem foghornref04_newest.mono_l : ∀ k, (∀ y0 y1 y2, LeO (foghornref04_newest.l0 k y0 y1 y2) (foghornref04_newest.l0 (k + 1) y0 y1 y2))
 | 0 => fun _ _ _ r h => by simp [foghornref04_newest.l0] at h
 | k + 1 => by
  have ih0 := foghornref04_newest.mono_l k
  ·intro y0 y1 y2
   unfold foghornref04_newest.l0
   repeat' first
   | (with_reducible exact ih0 _ _ _)
   | (with_reducible exact LeO.refl _)
   | (with_reducible exact LeO.none _)
   | (with_reducible refine LeO.ite ?_ ?_)
   | (with_reducible refine LeO.bind ?_ (fun _ => ?_))
   | exact ih0 _ _ _
   | exact LeO.none _
   | refine LeO.ite ?_ ?_
   | refine LeO.bind ?_ (fun _ => ?_)
theorem foghornref04_newest.mono : ∀ a0 k, LeO (foghornref04_newest.f k a0) (foghornref04_newest.f (k + 1) a0) := by
 intro a0 k
 have ih0 := foghornref04_newest.mono_l k
 unfold foghornref04_newest.f
 repeat' first
   | (with_reducible exact ih0 _ _ _)
   | (with_reducible exact LeO.refl _)
   | (with_reducible exact LeO.none _)
   | (with_reducible refine LeO.ite ?_ ?_)
   | (with_reducible refine LeO.bind ?_ (fun _ => ?_))
   | exact ih0 _ _ _
   | exact LeO.none _
   | refine LeO.ite ?_ ?_
   | refine LeO.bind ?_ (fun _ => ?_)
end Go.Proofs.YtopaddpclipnjaaQ.P
namespace Go.Proofs.YtopaddpclipnjaaQ.P
open Go.RowKit Go.Proofs.YtopaddpclipnjaaW.PrintWords Go.Proofs.YtopaddpclipnjaaW.PrintLast Go.Proofs.YtopaddpclipnjaaW.PrintMore
attribute [local go_sem] max2_int min2_int max_two min_two max_three min_three max_four min_four
def foghornref04_is.f (l0_0 : List ByteArray) (a1 : Int) (a2 : Int) (a3 : Int) : Option (ByteArray × Bool) := if 0 ≤ a1 then (if a1 < (l0_0.length : Int) then ((foghornref03_Open.f (rdOf ByteArray.empty l0_0 a1)).bind fun bt251 => (if bt251.2.2.2 = 0 then (if bt251.1 = a2 then (some (bt251.2.2.1, (bt251.2.1 == a3))) else (some (bt251.2.2.1, false))) else (some (bt251.2.2.1, false)))) else (none)) else (none)
end Go.Proofs.YtopaddpclipnjaaQ.P
namespace Go.Proofs.YtopaddpclipnjaaQ.P
open Go.RowKit Go.Proofs.YtopaddpclipnjaaW.PrintWords Go.Proofs.YtopaddpclipnjaaW.PrintLast Go.Proofs.YtopaddpclipnjaaW.PrintMore
attribute [local go_sem] max2_int min2_int max_two min_two max_three min_three max_four min_four
def foghornref04_place.f (l0_0 : List ByteArray) (a1 : Int) (a2 : Int) : Option (Int) := if (Int.tmod a1 2) = 0 then (some (wrap64 (2 + a2))) else ((foghornref04_Area.f l0_0).bind fun t256 => (some (wrap64 ((wrap64 (2 + t256)) + a2))))
end Go.Proofs.YtopaddpclipnjaaQ.P
namespace Go.Proofs.YtopaddpclipnjaaQ.P
open Go.RowKit Go.Proofs.YtopaddpclipnjaaW.PrintWords Go.Proofs.YtopaddpclipnjaaW.PrintLast Go.Proofs.YtopaddpclipnjaaW.PrintMore
attribute [local go_sem] max2_int min2_int max_two min_two max_three min_three max_four min_four
mutual
def foghornref04_Boot.j1 : Nat → List ByteArray → List ByteArray → List ByteArray → Int → Int → Int → Bool → Option (List ByteArray × Int × Int × Int × Bool × List ByteArray × Bool)
 | 0, _, _, _, _, _, _, _ => none
 | k + 1, x6, x258000, x261000, x261001, x261002, x261003, x261004 => foghornref04_Boot.l1 k x6 x258000 (x258000.length : Int) 0 x261000 x261001 (x6.length : Int) x261001 x261004
def foghornref04_Boot.l1 : Nat → List ByteArray → List ByteArray → Int → Int → List ByteArray → Int → Int → Int → Bool → Option (List ByteArray × Int × Int × Int × Bool × List ByteArray × Bool)
 | 0, _, _, _, _, _, _, _, _, _ => none
 | k + 1, x6, x55, x56, x57, x261000, x261001, x261002, x261003, x261004 => if x57 < x56 then (if 0 ≤ x57 then (if x57 < (x55.length : Int) then (if 0 < ((rdOf ByteArray.empty x55 x57).size : Int) then (if (wrap64 (bt (rdOf ByteArray.empty x55 x57) 0)) ≤ 250 then (if (wrap64 (bt (rdOf ByteArray.empty x55 x57) 0)) > x261003 then (foghornref04_Boot.l1 k x6 x55 x56 (wrap64 (x57 + 1)) x261000 x261001 x261002 (wrap64 (bt (rdOf ByteArray.empty x55 x57) 0)) x261004) else (foghornref04_Boot.l1 k x6 x55 x56 (wrap64 (x57 + 1)) x261000 x261001 x261002 x261003 x261004)) else (foghornref04_Boot.l1 k x6 x55 x56 (wrap64 (x57 + 1)) x261000 x261001 x261002 x261003 x261004)) else (none)) else (none)) else (none)) else (some (x261000, x261001, x261002, x261003, x261004, x6, true))
def foghornref04_Boot.l0 : Nat → List ByteArray → Int → List ByteArray → List ByteArray → Int → Int → Int → Bool → Option (List ByteArray × Int × Int × Int × Bool × List ByteArray × Bool)
 | 0, _, _, _, _, _, _, _, _ => none
 | k + 1, x6, x7, x258000, x261000, x261001, x261002, x261003, x261004 => (foghornref04_Area.f x258000).bind fun t264 => (if x7 < t264 then ((foghornref04_place.f x258000 x261001 x7).bind fun t265 => ((foghornref04_is.f x258000 t265 x261001 (wrap64 (x7 + 1))).bind fun bt266 => (if bt266.2 = true then (if x6.length < 8796093022208 then (foghornref04_Boot.l0 k (x6 ++ [bt266.1]) (wrap64 (x7 + 1)) x258000 x261000 x261001 x261002 x261003 x261004) else (none)) else (foghornref04_Boot.j1 k x6 x258000 x261000 x261001 x261002 x261003 x261004)))) else (foghornref04_Boot.j1 k x6 x258000 x261000 x261001 x261002 x261003 x261004))
end
theorem foghornref04_Boot.mono_l : ∀ k, (∀ y0 y1 y2 y3 y4 y5 y6, LeO (foghornref04_Boot.j1 k y0 y1 y2 y3 y4 y5 y6) (foghornref04_Boot.j1 (k + 1) y0 y1 y2 y3 y4 y5 y6)) ∧ (∀ y0 y1 y2 y3 y4 y5 y6 y7 y8, LeO (foghornref04_Boot.l1 k y0 y1 y2 y3 y4 y5 y6 y7 y8) (foghornref04_Boot.l1 (k + 1) y0 y1 y2 y3 y4 y5 y6 y7 y8)) ∧ (∀ y0 y1 y2 y3 y4 y5 y6 y7, LeO (foghornref04_Boot.l0 k y0 y1 y2 y3 y4 y5 y6 y7) (foghornref04_Boot.l0 (k + 1) y0 y1 y2 y3 y4 y5 y6 y7))
 | 0 => ⟨fun _ _ _ _ _ _ _ r h => by simp [foghornref04_Boot.j1] at h, fun _ _ _ _ _ _ _ _ _ r h => by simp [foghornref04_Boot.l1] at h, fun _ _ _ _ _ _ _ _ r h => by simp [foghornref04_Boot.l0] at h⟩
 | k + 1 => by
  obtain ⟨ih0, ih1, ih2⟩ := foghornref04_Boot.mono_l k
  refine ⟨?_, ?_, ?_⟩
  ·intro y0 y1 y2 y3 y4 y5 y6
   unfold foghornref04_Boot.j1
   repeat' first
   | (with_reducible exact ih0 _ _ _ _ _ _ _)
   | (with_reducible exact ih1 _ _ _ _ _ _ _ _ _)
   | (with_reducible exact ih2 _ _ _ _ _ _ _ _)
   | (with_reducible exact foghornref04_newest.mono _ _)
   | (with_reducible exact LeO.refl _)
   | (with_reducible exact LeO.none _)
   | (with_reducible refine LeO.ite ?_ ?_)
   | (with_reducible refine LeO.bind ?_ (fun _ => ?_))
   | exact ih0 _ _ _ _ _ _ _
   | exact ih1 _ _ _ _ _ _ _ _ _
   | exact ih2 _ _ _ _ _ _ _ _
   | exact foghornref04_newest.mono _ _
   | exact LeO.none _
   | refine LeO.ite ?_ ?_
   | refine LeO.bind ?_ (fun _ => ?_)
  ·intro y0 y1 y2 y3 y4 y5 y6 y7 y8
   unfold foghornref04_Boot.l1
   repeat' first
   | (with_reducible exact ih0 _ _ _ _ _ _ _)
   | (with_reducible exact ih1 _ _ _ _ _ _ _ _ _)
   | (with_reducible exact ih2 _ _ _ _ _ _ _ _)
   | (with_reducible exact foghornref04_newest.mono _ _)
   | (with_reducible exact LeO.refl _)
   | (with_reducible exact LeO.none _)
   | (with_reducible refine LeO.ite ?_ ?_)
   | (with_reducible refine LeO.bind ?_ (fun _ => ?_))
   | exact ih0 _ _ _ _ _ _ _
   | exact ih1 _ _ _ _ _ _ _ _ _
   | exact ih2 _ _ _ _ _ _ _ _
   | exact foghornref04_newest.mono _ _
   | exact LeO.none _
   | refine LeO.ite ?_ ?_
   | refine LeO.bind ?_ (fun _ => ?_)
  ·intro y0 y1 y2 y3 y4 y5 y6 y7
   unfold foghornref04_Boot.l0
   repeat' first
   | (with_reducible exact ih0 _ _ _ _ _ _ _)
   | (with_reducible exact ih1 _ _ _ _ _ _ _ _ _)
   | (with_reducible exact ih2 _ _ _ _ _ _ _ _)
   | (with_reducible exact foghornref04_newest.mono _ _)
   | (with_reducible exact LeO.refl _)
   | (with_reducible exact LeO.none _)
   | (with_reducible refine LeO.ite ?_ ?_)
   | (with_reducible refine LeO.bind ?_ (fun _ => ?_))
   | exact ih0 _ _ _ _ _ _ _
   | exact ih1 _ _ _ _ _ _ _ _ _
   | exact ih2 _ _ _ _ _ _ _ _
   | exact foghornref04_newest.mono _ _
   | exact LeO.none _
   | refine LeO.ite ?_ ?_
   | refine LeO.bind ?_ (fun _ => ?_)
end Go.Proofs.YtopaddpclipnjaaQ.P
namespace Go.Proofs.YtopaddpclipnjaaQ.P
open Go.RowKit Go.Proofs.YtopaddpclipnjaaW.PrintWords Go.Proofs.YtopaddpclipnjaaW.PrintLast Go.Proofs.YtopaddpclipnjaaW.PrintMore
attribute [local go_sem] max2_int min2_int max_two min_two max_three min_three max_four min_four
def foghornref02_Right.l0 : Nat → List ByteArray → Int → Int → List ByteArray → Option (Bool)
 | 0, _, _, _, _ => none
 | k + 1, x6, x7, x8, x158000 => if x8 < x7 then (if 0 ≤ x8 then (if x8 < (x6.length : Int) then (if ((rdOf ByteArray.empty x6 x8).size : Int) = 128 then (foghornref02_Right.l0 k x6 x7 (wrap64 (x8 + 1)) x158000) else (some false)) else (none)) else (none)) else (if (x158000.length : Int) ≥ 10 then (some (decide ((x158000.length : Int) ≤ 130))) else (some false))
theorem foghornref02_Right.mono_l : ∀ k, (∀ y0 y1 y2 y3, LeO (foghornref02_Right.l0 k y0 y1 y2 y3) (foghornref02_Right.l0 (k + 1) y0 y1 y2 y3))
 | 0 => fun _ _ _ _ r h => by simp [foghornref02_Right.l0] at h
 | k + 1 => by
  have ih0 := foghornref02_Right.mono_l k
  ·intro y0 y1 y2 y3
   unfold foghornref02_Right.l0
   repeat' first
   | (with_reducible exact ih0 _ _ _ _)
   | (with_reducible exact LeO.refl _)
   | (with_reducible exact LeO.none _)
   | (with_reducible refine LeO.ite ?_ ?_)
   | (with_reducible refine LeO.bind ?_ (fun _ => ?_))
   | exact ih0 _ _ _ _
   | exact LeO.none _
   | refine LeO.ite ?_ ?_
   | refine LeO.bind ?_ (fun _ => ?_)
end Go.Proofs.YtopaddpclipnjaaQ.P
namespace Go.Proofs.YtopaddpclipnjaaQ.P
open Go.RowKit Go.Proofs.YtopaddpclipnjaaW.PrintWords Go.Proofs.YtopaddpclipnjaaW.PrintLast Go.Proofs.YtopaddpclipnjaaW.PrintMore
attribute [local go_sem] max2_int min2_int max_two min_two max_three min_three max_four min_four
def foghornlaw04_few.l0 : Nat → List ByteArray → List ByteArray → Int → Int → Option (List ByteArray)
 | 0, _, _, _, _ => none
 | k + 1, x5, x13, x14, x15 => if x15 < x14 then (if 0 ≤ x15 then (if x15 < (x13.length : Int) then (if 0 ≤ (mn ((rdOf ByteArray.empty x13 x15).size : Int) 130) then (if (mn ((rdOf ByteArray.empty x13 x15).size : Int) 130) ≤ ((rdOf ByteArray.empty x13 x15).size : Int) then (if x5.length < 8796093022208 then (foghornlaw04_few.l0 k (x5 ++ [(rdOf ByteArray.empty x13 x15).extract 0 ((mn ((rdOf ByteArray.empty x13 x15).size : Int) 130) : Int).toNat]) x13 x14 (wrap64 (x15 + 1))) else (none)) else (none)) else (none)) else (none)) else (none)) else (some x5)
def foghornlaw04_few.f (k : Nat) (l0 : List ByteArray) (a1 : Int) : Option (List ByteArray) := if 0 ≤ (mn (l0.length : Int) a1) then (if (mn (l0.length : Int) a1) ≤ (l0.length : Int) then (foghornlaw04_few.l0 k ([] : List ByteArray) (l0.take ((mn (l0.length : Int) a1) : Int).toNat) ((l0.take ((mn (l0.length : Int) a1) : Int).toNat).length : Int) 0) else (none)) else (none)
theorem foghornlaw04_few.mono_l : ∀ k, (∀ y0 y1 y2 y3, LeO (foghornlaw04_few.l0 k y0 y1 y2 y3) (foghornlaw04_few.l0 (k + 1) y0 y1 y2 y3))
 | 0 => fun _ _ _ _ r h => by simp [foghornlaw04_few.l0] at h
 | k + 1 => by
  have ih0 := foghornlaw04_few.mono_l k
  ·intro y0 y1 y2 y3
   unfold foghornlaw04_few.l0
   repeat' first
   | (with_reducible exact ih0 _ _ _ _)
   | (with_reducible exact LeO.refl _)
   | (with_reducible exact LeO.none _)
   | (with_reducible refine LeO.ite ?_ ?_)
   | (with_reducible refine LeO.bind ?_ (fun _ => ?_))
   | exact ih0 _ _ _ _
   | exact LeO.none _
   | refine LeO.ite ?_ ?_
   | refine LeO.bind ?_ (fun _ => ?_)
set_option maxHeartbeats 8000000 in
set_option maxRecDepth 100000 in
theorem foghornlaw04_few.calls (k : Nat) (A0 : Option Addr) (c0 : Nat) (l0 : List ByteArray) (a1 : Int) (r : List ByteArray) (w : World) (hr0 : Kd.C Kd.string w A0 l0.length l0) (hc0 : l0.length ≤ c0) (h : foghornlaw04_few.f k l0 a1 = some r) :
  Calls Try.prog 10 #[.slice A0 l0.length c0, .int .i64 a1] w fun e w' => ∃ v0_ : Value, e = .returned (v0_) ∧ Kd.R Kd.string 9 w' w.heap.size (fun _ => True) v0_ r ∧ Below w.heap.size w w' := by
 have HR0 := aA hr0
 have HC0 := aA hc0
 clear hr0 hc0
 have HB := aA (Below.refl w.heap.size w)
 have H : (if 0 ≤ (mn (l0.length : Int) a1) then (if (mn (l0.length : Int) a1) ≤ (l0.length : Int) then (foghornlaw04_few.l0 k ([] : List ByteArray) (l0.take ((mn (l0.length : Int) a1) : Int).toNat) ((l0.take ((mn (l0.length : Int) a1) : Int).toNat).length : Int) 0) else (none)) else (none)) = some r := h
 clear h
 obtain ⟨ji3, hji3⟩ : ∃ j_ : Int, (mn (l0.length : Int) a1) = j_ := ⟨_, rfl⟩
 replace H : (if 0 ≤ (ji3) then (if (ji3) ≤ (l0.length : Int) then (foghornlaw04_few.l0 k ([] : List ByteArray) (l0.take ((ji3) : Int).toNat) ((l0.take ((ji3) : Int).toNat).length : Int) 0) else (none)) else (none)) = some r := by first | (rw [hji3] at H; exact H) | (simp only [hji3] at H ⊢; exact H)
 have hji3_ : (if a1 < (l0.length : Int) then a1 else (l0.length : Int)) = ji3 := hji3
 by_cases c4 : 0 ≤ (ji3)
 ·rw [if_pos c4] at H
  have c4b0 := eq_true c4
  have c4b1 := decide_eq_true c4
  clear c4
  by_cases c5 : (ji3) ≤ (l0.length : Int)
  ·rw [if_pos c5] at H
   have c5b0 := eq_true c5
   have c5b1 := decide_eq_true c5
   clear c5
   have H' := aA H
   clear H
   obtain ⟨i06, hi06, _, hsz6, _⟩ := info_parts info9
   obtain ⟨hcut6, hA6, hC6⟩ := print_take_of (P := Try.prog) Value.string (⟨#[]⟩ : ByteArray) 22 9 .i64 Try.underlying22 hi06 hsz6 A0 c0 l0 (ji3) (of_decide_eq_true (by first | (with_reducible assumption) | assumption)) (of_decide_eq_true (by first | (with_reducible assumption) | assumption)) HC0.out
   have HR101 := aA (Kd.C_of_reads (h1 := fun _ => rfl) (hA6 _ (Kd.reads_of_C HR0.out)))
   have HC101 := aA hC6
   clear hA6 hC6 hi06 hsz6
   go_enter Try.func10, Try.ntmps10
   go_wp2
   go_loopg [5, 15] k (fun kq v5 v15 w' => ∃ (x5_1 : List ByteArray) (x15_1 : Int), v15 = .int .i64 x15_1 ∧ Aside0 (foghornlaw04_few.l0 kq x5_1 (l0.take ((ji3) : Int).toNat) ((l0.take ((ji3) : Int).toNat).length : Int) x15_1 = some r) ∧ Aside0 (kq ≤ k) ∧ Aside0 (Kd.R Kd.string 9 w' w.heap.size (fun _ => True) v5 x5_1) ∧ Aside0 (Below w.heap.size w w'))
   case atStart => exact ⟨(([] : List ByteArray)), (0), (by first | rfl | (simp; done) | (simp [*]; done)), H', ⟨Nat.le_refl _⟩, ⟨by first | exact Kd.R_nil _ _ _ _ _ | exact Kd.N_nil _ _ _ _ _ | exact Kd.V_nil _ _ _ _ _ | exact Kd.Q_nil _ _ _ _ _ | exact Kd.S_nil _ _ _ _ _⟩, ⟨by repeat (first | (with_reducible first | exact HB.out | apply below_alloc | apply pw_below_drewN | apply below_drew1) | exact HB.out)⟩⟩
   case round =>
    clear H'
    try clear c1
    try clear p2
    try clear c4
    try clear c4b0
    try clear c4b1
    try clear c5
    try clear c5b0
    try clear c5b1
    obtain ⟨x5_1, x15_1, rfl, HA, HK1, HO_5, HB⟩ := hrel
    cases gk with
    | zero => exact absurd HA.out (by simp [foghornlaw04_few.l0])
    | succ k1 =>
     have H := HA.out
     clear HA
     simp only [foghornlaw04_few.l0] at H
     by_cases c7 : x15_1 < ((l0.take ((ji3) : Int).toNat).length : Int)
     ·rw [if_pos c7] at H
      have c7b0 : decide (x15_1 < ((l0.take ((ji3) : Int).toNat).length : Int)) = true := decide_eq_true c7
      try have c7m : decide (x15_1 < max ji3 0) = true := decide_eq_true (by have h_ := c7; have h2_ : ji3 ≤ (l0.length : Int) := (by rw [← hji3_]; split <;> omega); rw [List.length_take] at h_; omega)
      clear c7
      by_cases c8 : 0 ≤ x15_1
      ·rw [if_pos c8] at H
       have c8b0 : decide (0 ≤ x15_1) = true := decide_eq_true c8
       clear c8
       by_cases c9 : x15_1 < ((l0.take ((ji3) : Int).toNat).length : Int)
       ·rw [if_pos c9] at H
        have c9b0 : decide (x15_1 < ((l0.take ((ji3) : Int).toNat).length : Int)) = true := decide_eq_true c9
        try have c9m : decide (x15_1 < max ji3 0) = true := decide_eq_true (by have h_ := c9; have h2_ : ji3 ≤ (l0.length : Int) := (by rw [← hji3_]; split <;> omega); rw [List.length_take] at h_; omega)
        clear c9
        obtain ⟨ji10, hji10⟩ : ∃ j_ : Int, (mn ((rdOf ByteArray.empty (l0.take ((ji3) : Int).toNat) x15_1).size : Int) 130) = j_ := ⟨_, rfl⟩
        replace H : (if 0 ≤ (ji10) then (if (ji10) ≤ ((rdOf ByteArray.empty (l0.take ((ji3) : Int).toNat) x15_1).size : Int) then (if x5_1.length < 8796093022208 then (foghornlaw04_few.l0 k1 (x5_1 ++ [(rdOf ByteArray.empty (l0.take ((ji3) : Int).toNat) x15_1).extract 0 ((ji10) : Int).toNat]) (l0.take ((ji3) : Int).toNat) ((l0.take ((ji3) : Int).toNat).length : Int) (wrap64 (x15_1 + 1))) else (none)) else (none)) else (none)) = some r := by first | (rw [hji10] at H; exact H) | (simp only [hji10] at H ⊢; exact H)
        have hji10_ : (if 130 < ((rdOf ByteArray.empty (l0.take ((ji3) : Int).toNat) x15_1).size : Int) then 130 else ((rdOf ByteArray.empty (l0.take ((ji3) : Int).toNat) x15_1).size : Int)) = ji10 := hji10
        by_cases c11 : 0 ≤ (ji10)
        ·rw [if_pos c11] at H
         have c11b0 := eq_true c11
         have c11b1 := decide_eq_true c11
         clear c11
         by_cases c12 : (ji10) ≤ ((rdOf ByteArray.empty (l0.take ((ji3) : Int).toNat) x15_1).size : Int)
         ·rw [if_pos c12] at H
          have c12b0 := eq_true c12
          have c12b1 := decide_eq_true c12
          clear c12
          by_cases c13 : x5_1.length < 8796093022208
          ·rw [if_pos c13] at H
           have LMc13 := aA c13
           clear c13
           obtain ⟨y103, hy103⟩ : ∃ y_ : List ByteArray, y_ = (x5_1 ++ [(rdOf ByteArray.empty (l0.take ((ji3) : Int).toNat) x15_1).extract 0 ((ji10) : Int).toNat]) := ⟨_, rfl⟩
           replace H : (foghornlaw04_few.l0 k1 y103 (l0.take ((ji3) : Int).toNat) ((l0.take ((ji3) : Int).toNat).length : Int) (wrap64 (x15_1 + 1))) = some r := by first | (rw [hy103]; with_reducible exact H) | (have H2_ := (Option.bind_some _ _).symm.trans H; rw [hy103]; with_reducible exact H2_) | (have H2_ := (Option.bind_some _ _).symm.trans H; with_reducible exact H2_) | with_reducible exact H | (rw [hy103]; exact H) | exact H
           have Ny103 := aA hy103
           clear hy103
           have H' := aA H
           clear H
           have p102 : 0 ≤ (x15_1 : Int) := of_decide_eq_true (by first | (with_reducible assumption) | assumption)
           have q102 : x15_1 < ((l0.take ((ji3) : Int).toNat).length : Int) := of_decide_eq_true (by first | (with_reducible assumption) | assumption)
           try have q102m : decide (x15_1 < max ji3 0) = true := decide_eq_true (by have h_ := q102; have h2_ : ji3 ≤ (l0.length : Int) := (by rw [← hji3_]; split <;> omega); rw [List.length_take] at h_; omega)
           try have q102p : (x15_1 < max ji3 0) = True := eq_true (of_decide_eq_true q102m)
           obtain ⟨ad102, e102, hx102_0⟩ := Kd.at_string HR101.out x15_1 p102 q102
           cases e102
           replace hx102_0 := (HB.out.cell (World.block_lt_of_cell? w _ hx102_0)).trans hx102_0
           replace p102 := eq_true p102
           replace q102 := eq_true q102
           go_wp2_with (first | ((with_reducible refine gate_builtin (b := .append) (xs := #[.tmp 19, .tmp 25]) rfl ?_); at_builtin; refine Kd.R_append Kd.string (w0 := w) w.heap.size rfl (.tmp 19) (.tmp 25) 22 9 (.string ⟨#[]⟩) 16 rfl Try.underlying22 info9 rfl (by decide) (by omega) u5 x5_1 ((rdOf ByteArray.empty (l0.take ((ji3) : Int).toNat) x15_1).extract 0 ((ji10) : Int).toNat) [.string ((rdOf ByteArray.empty (l0.take ((ji3) : Int).toNat) x15_1).extract 0 ((ji10) : Int).toNat)] (fun _ => True) (fun _ => False) rfl rfl ?aP (fun _ hk => hk.elim) ?aF ?aO ?aB ?aS ?aL ?_; (case aP => exact rfl); (case aB => exact mB); (case aF => exact (fun _ _ => trivial)); (case aO => exact (mR HO_5.out)); (case aS => exact (below_size mB)); (case aL => have := LMc13.out; omega); intro v104 w14 ho hb hg hat; rw [← Ny103.out] at ho; have n0_ := aA (hb); have n1_ := aA (ho); clear HB HO_5; have HB := n0_; have HO105 := n1_; clear n0_ n1_ ho hb hg hat))
           go_roundg k1
           case measure => have := HK1.out; omega
           case rel => exact ⟨(y103), (wrap64 (x15_1 + 1)), (by first | rfl | (simp; done) | (simp [*]; done)), H', ⟨by have := HK1.out; omega⟩, ⟨by (with_reducible repeat (first | apply Kd.R_alloc | apply Kd.R_drewN | apply Kd.R_drew)); exact HO105.out⟩, ⟨by repeat (first | (with_reducible first | exact HB.out | apply below_alloc | apply pw_below_drewN | apply below_drew1) | exact HB.out)⟩⟩
          ·rw [if_neg c13] at H
           exact absurd H (by simp)
         ·rw [if_neg c12] at H
          exact absurd H (by simp)
        ·rw [if_neg c11] at H
         exact absurd H (by simp)
       ·rw [if_neg c9] at H
        exact absurd H (by simp)
      ·rw [if_neg c8] at H
       exact absurd H (by simp)
     ·rw [if_neg c7] at H
      have c7b0 : decide (x15_1 < ((l0.take ((ji3) : Int).toNat).length : Int)) = false := decide_eq_false c7
      try have c7m : decide (x15_1 < max ji3 0) = false := decide_eq_false (by have h_ := c7; have h2_ : ji3 ≤ (l0.length : Int) := (by rw [← hji3_]; split <;> omega); rw [List.length_take] at h_; omega)
      clear c7
      obtain rfl := Option.some.inj H
      go_wp2
      go_ret
      exact ⟨_, by first | rfl | (simp [errW_none, errW_some] <;> rfl) | (simp only [← hji3]; first | rfl | (simp [errW_none, errW_some] <;> rfl)) | (simp [*, errW_none, errW_some] <;> rfl), by (with_reducible repeat (first | apply Kd.R_alloc | apply Kd.R_drewN | apply Kd.R_drew)); exact HO_5.out, by repeat (first | (with_reducible first | exact HB.out | apply below_alloc | apply pw_below_drewN | apply below_drew1) | exact HB.out)⟩
  ·rw [if_neg c5] at H
   exact absurd H (by simp)
 ·rw [if_neg c4] at H
  exact absurd H (by simp)
end Go.Proofs.YtopaddpclipnjaaQ.P
namespace Go.Proofs.YtopaddpclipnjaaQ.P
open Go.RowKit Go.Proofs.YtopaddpclipnjaaW.PrintWords Go.Proofs.YtopaddpclipnjaaW.PrintLast Go.Proofs.YtopaddpclipnjaaW.PrintMore
attribute [local go_sem] max2_int min2_int max_two min_two max_three min_three max_four min_four
def foghornref02_Same.l0 : Nat → Int → Int → List ByteArray → List ByteArray → Option (Bool)
 | 0, _, _, _, _ => none
 | k + 1, x15, x16, x205000, x206000 => if x16 < x15 then (if 0 ≤ x16 then (if x16 < (x205000.length : Int) then (if x16 < (x206000.length : Int) then (if (rdOf ByteArray.empty x205000 x16).toList = (rdOf ByteArray.empty x206000 x16).toList then (foghornref02_Same.l0 k x15 (wrap64 (x16 + 1)) x205000 x206000) else (some false)) else (none)) else (none)) else (none)) else (some true)
def foghornref02_Same.f (k : Nat) (l0_0 : List ByteArray) (l1_0 : List ByteArray) : Option (Bool) := if (l0_0.length : Int) = (l1_0.length : Int) then (foghornref02_Same.l0 k (l0_0.length : Int) 0 l0_0 l1_0) else (some false)
theorem foghornref02_Same.mono_l : ∀ k, (∀ y0 y1 y2 y3, LeO (foghornref02_Same.l0 k y0 y1 y2 y3) (foghornref02_Same.l0 (k + 1) y0 y1 y2 y3))
 | 0 => fun _ _ _ _ r h => by simp [foghornref02_Same.l0] at h
 | k + 1 => by
  have ih0 := foghornref02_Same.mono_l k
  ·intro y0 y1 y2 y3
   unfold foghornref02_Same.l0
   repeat' first
   | (with_reducible exact ih0 _ _ _ _)
   | (with_reducible exact LeO.refl _)
   | (with_reducible exact LeO.none _)
   | (with_reducible refine LeO.ite ?_ ?_)
   | (with_reducible refine LeO.bind ?_ (fun _ => ?_))
   | exact ih0 _ _ _ _
   | exact LeO.none _
   | refine LeO.ite ?_ ?_
   | refine LeO.bind ?_ (fun _ => ?_)
set_option maxHeartbeats 8000000 in
set_option maxRecDepth 100000 in
theorem foghornref02_Same.calls (k : Nat) (A0_0 : Option Addr) (c0_0 : Nat) (l0_0 : List ByteArray) (A1_0 : Option Addr) (c1_0 : Nat) (l1_0 : List ByteArray) (r : Bool) (w : World) (hr0_0 : Kd.C Kd.string w A0_0 l0_0.length l0_0) (hc0_0 : l0_0.length ≤ c0_0) (hr1_0 : Kd.C Kd.string w A1_0 l1_0.length l1_0) (hc1_0 : l1_0.length ≤ c1_0) (h : foghornref02_Same.f k l0_0 l1_0 = some r) :
  Calls Try.prog 31 #[.agg #[.slice A0_0 l0_0.length c0_0], .agg #[.slice A1_0 l1_0.length c1_0]] w fun e w' => e = .returned (.bool r) ∧ Below w.heap.size w w' := by
 have hu24 := Try.underlying24
 have HR0_0 := aA hr0_0
 have HC0_0 := aA hc0_0
 clear hr0_0 hc0_0
 have HR1_0 := aA hr1_0
 have HC1_0 := aA hc1_0
 clear hr1_0 hc1_0
 have HB := aA (Below.refl w.heap.size w)
 have H : (if (l0_0.length : Int) = (l1_0.length : Int) then (foghornref02_Same.l0 k (l0_0.length : Int) 0 l0_0 l1_0) else (some false)) = some r := h
 clear h
 by_cases c3 : (l0_0.length : Int) = (l1_0.length : Int)
 ·rw [if_pos c3] at H
  have c3b0 : ((l0_0.length : Int) == (l1_0.length : Int)) = true := beq_iff_eq.mpr c3
  have c3b1 : ((l0_0.length : Int) != (l1_0.length : Int)) = false := bne_eq_false_iff_eq.mpr c3
  have c3b2 : (l0_0.length == l1_0.length) = true := by first | simpa using c3 | (simp at c3 ⊢; omega)
  clear c3
  have H' := aA H
  clear H
  go_enter Try.func31, Try.ntmps31
  go_wp2_with (first | ((with_reducible refine gate_dst (N := 2) rfl ?_); refine box_event ?hg (N := 2) ?hd (cs := #[.slice A0_0 l0_0.length c0_0]) (t := 24) ?hr ?_; (case hd => rfl); (case hg => rfl); (case hr => first | (go_simp; done) | (go_simp; rfl)); intro gb204 hg w4 hbox hb; have n0_ := aA (below_step mB hb); have n1_ := aA (hbox); have n2_ := aA ((bZ hg mB)); have n3_ := aA ((bZ hg mB)); clear HB; have HB := n0_; have BK204 := n1_; have GW204 := n2_; have GE204 := n3_; clear n0_ n1_ n2_ n3_ hb hbox hg) | ((with_reducible refine gate_dst (N := 3) rfl ?_); refine box_event ?hg (N := 3) ?hd (cs := #[.slice A1_0 l1_0.length c1_0]) (t := 24) ?hr ?_; (case hd => rfl); (case hg => rfl); (case hr => first | (go_simp; done) | (go_simp; rfl)); intro gb205 hg w5 hbox hb; have n0_ := aA (bB BK204.out hb); have n1_ := aA (below_step (mD1 GE204.out) hb); have n2_ := aA (hbox); have n3_ := aA ((bZ hg (mD1 GE204.out))); have n4_ := aA ((bZ hg (mD1 GE204.out))); have n5_ := aA ((bL hg BK204.out)); have n6_ := aA ((bG hg BK204.out)); clear BK204 HB; have BK204 := n0_; have HB := n1_; have BK205 := n2_; have GW205 := n3_; have GE205 := n4_; have NB204_205 := n5_; have NB205_204 := n6_; clear n0_ n1_ n2_ n3_ n4_ n5_ n6_ hb hbox hg; have hnb6 := NB204_205.out; have hnc6 := NB205_204.out; have hcz7_0 : w5.cell? ⟨gb204, 0, none⟩ = some (.slice A0_0 l0_0.length c0_0) := (blk_cell BK204.out 0).trans rfl; have hfz7_0 := blk_frozen BK204.out 0; have hcz8_0 : w5.cell? ⟨gb205, 0, none⟩ = some (.slice A1_0 l1_0.length c1_0) := (blk_cell BK205.out 0).trans rfl; have hfz8_0 := blk_frozen BK205.out 0))
  repeat (go_quiet (first | ((with_reducible refine gate_dst (N := 2) rfl ?_); refine box_event ?hg (N := 2) ?hd (cs := #[.slice A0_0 l0_0.length c0_0]) (t := 24) ?hr ?_; (case hd => rfl); (case hg => rfl); (case hr => first | (go_simp; done) | (go_simp; rfl)); intro gb204 hg w4 hbox hb; have n0_ := aA (below_step mB hb); have n1_ := aA (hbox); have n2_ := aA ((bZ hg mB)); have n3_ := aA ((bZ hg mB)); clear HB; have HB := n0_; have BK204 := n1_; have GW204 := n2_; have GE204 := n3_; clear n0_ n1_ n2_ n3_ hb hbox hg) | ((with_reducible refine gate_dst (N := 3) rfl ?_); refine box_event ?hg (N := 3) ?hd (cs := #[.slice A1_0 l1_0.length c1_0]) (t := 24) ?hr ?_; (case hd => rfl); (case hg => rfl); (case hr => first | (go_simp; done) | (go_simp; rfl)); intro gb205 hg w5 hbox hb; have n0_ := aA (bB BK204.out hb); have n1_ := aA (below_step (mD1 GE204.out) hb); have n2_ := aA (hbox); have n3_ := aA ((bZ hg (mD1 GE204.out))); have n4_ := aA ((bZ hg (mD1 GE204.out))); have n5_ := aA ((bL hg BK204.out)); have n6_ := aA ((bG hg BK204.out)); clear BK204 HB; have BK204 := n0_; have HB := n1_; have BK205 := n2_; have GW205 := n3_; have GE205 := n4_; have NB204_205 := n5_; have NB205_204 := n6_; clear n0_ n1_ n2_ n3_ n4_ n5_ n6_ hb hbox hg; have hnb6 := NB204_205.out; have hnc6 := NB205_204.out; have hcz7_0 : w5.cell? ⟨gb204, 0, none⟩ = some (.slice A0_0 l0_0.length c0_0) := (blk_cell BK204.out 0).trans rfl; have hfz7_0 := blk_frozen BK204.out 0; have hcz8_0 : w5.cell? ⟨gb205, 0, none⟩ = some (.slice A1_0 l1_0.length c1_0) := (blk_cell BK205.out 0).trans rfl; have hfz8_0 := blk_frozen BK205.out 0)); try go_wp2_with (first | ((with_reducible refine gate_dst (N := 2) rfl ?_); refine box_event ?hg (N := 2) ?hd (cs := #[.slice A0_0 l0_0.length c0_0]) (t := 24) ?hr ?_; (case hd => rfl); (case hg => rfl); (case hr => first | (go_simp; done) | (go_simp; rfl)); intro gb204 hg w4 hbox hb; have n0_ := aA (below_step mB hb); have n1_ := aA (hbox); have n2_ := aA ((bZ hg mB)); have n3_ := aA ((bZ hg mB)); clear HB; have HB := n0_; have BK204 := n1_; have GW204 := n2_; have GE204 := n3_; clear n0_ n1_ n2_ n3_ hb hbox hg) | ((with_reducible refine gate_dst (N := 3) rfl ?_); refine box_event ?hg (N := 3) ?hd (cs := #[.slice A1_0 l1_0.length c1_0]) (t := 24) ?hr ?_; (case hd => rfl); (case hg => rfl); (case hr => first | (go_simp; done) | (go_simp; rfl)); intro gb205 hg w5 hbox hb; have n0_ := aA (bB BK204.out hb); have n1_ := aA (below_step (mD1 GE204.out) hb); have n2_ := aA (hbox); have n3_ := aA ((bZ hg (mD1 GE204.out))); have n4_ := aA ((bZ hg (mD1 GE204.out))); have n5_ := aA ((bL hg BK204.out)); have n6_ := aA ((bG hg BK204.out)); clear BK204 HB; have BK204 := n0_; have HB := n1_; have BK205 := n2_; have GW205 := n3_; have GE205 := n4_; have NB204_205 := n5_; have NB205_204 := n6_; clear n0_ n1_ n2_ n3_ n4_ n5_ n6_ hb hbox hg; have hnb6 := NB204_205.out; have hnc6 := NB205_204.out; have hcz7_0 : w5.cell? ⟨gb204, 0, none⟩ = some (.slice A0_0 l0_0.length c0_0) := (blk_cell BK204.out 0).trans rfl; have hfz7_0 := blk_frozen BK204.out 0; have hcz8_0 : w5.cell? ⟨gb205, 0, none⟩ = some (.slice A1_0 l1_0.length c1_0) := (blk_cell BK205.out 0).trans rfl; have hfz8_0 := blk_frozen BK205.out 0)))
  go_loopg [16] k (fun kq v16 w' => ∃ (x16_1 : Int), v16 = .int .i64 x16_1 ∧ Aside0 (foghornref02_Same.l0 kq (l0_0.length : Int) x16_1 l0_0 l1_0 = some r) ∧ Aside0 (kq ≤ k) ∧ Aside0 (w'.heap[gb204]? = some (.cells #[(.slice A0_0 l0_0.length c0_0)] 24 (0, 0))) ∧ Aside0 (w'.heap[gb205]? = some (.cells #[(.slice A1_0 l1_0.length c1_0)] 24 (0, 0))) ∧ Aside0 (Below w.heap.size w w'))
  case atStart => exact ⟨(0), (by first | rfl | (simp; done) | (simp [*]; done)), H', ⟨Nat.le_refl _⟩, ⟨by (with_reducible repeat (first | refine blk_drewN ?_ _ | refine blk_drew ?_ | refine blk_alloc ?_ _)); exact BK204.out⟩, ⟨by (with_reducible repeat (first | refine blk_drewN ?_ _ | refine blk_drew ?_ | refine blk_alloc ?_ _)); exact BK205.out⟩, ⟨by repeat (first | (with_reducible first | exact HB.out | apply below_alloc | apply pw_below_drewN | apply below_drew1 | refine below_set ?_ GE204.out | refine below_set ?_ GE205.out) | exact HB.out)⟩⟩
  case round =>
   clear H'
   try clear c1
   try clear p2
   try clear c3
   try clear c3b0
   try clear c3b1
   try clear c3b2
   try clear c6
   try clear hcz7_0
   try clear hcz8_0
   try clear hfz7_0
   try clear hfz8_0
   obtain ⟨x16_1, rfl, HA, HK1, BK204, BK205, HB⟩ := hrel
   cases gk with
   | zero => exact absurd HA.out (by simp [foghornref02_Same.l0])
   | succ k1 =>
    have H := HA.out
    clear HA
    simp only [foghornref02_Same.l0] at H
    by_cases c9 : x16_1 < (l0_0.length : Int)
    ·rw [if_pos c9] at H
     have c9b0 : decide (x16_1 < (l0_0.length : Int)) = true := decide_eq_true c9
     clear c9
     by_cases c10 : 0 ≤ x16_1
     ·rw [if_pos c10] at H
      have c10b0 : decide (0 ≤ x16_1) = true := decide_eq_true c10
      clear c10
      by_cases c11 : x16_1 < (l0_0.length : Int)
      ·rw [if_pos c11] at H
       have c11b0 : decide (x16_1 < (l0_0.length : Int)) = true := decide_eq_true c11
       clear c11
       by_cases c12 : x16_1 < (l1_0.length : Int)
       ·rw [if_pos c12] at H
        have c12b0 : decide (x16_1 < (l1_0.length : Int)) = true := decide_eq_true c12
        clear c12
        by_cases c13 : (rdOf ByteArray.empty l0_0 x16_1).toList = (rdOf ByteArray.empty l1_0 x16_1).toList
        ·rw [if_pos c13] at H
         have c13b0 : ((rdOf ByteArray.empty l0_0 x16_1).toList == (rdOf ByteArray.empty l1_0 x16_1).toList) = true := beq_iff_eq.mpr c13
         have c13b1 : ((rdOf ByteArray.empty l0_0 x16_1).toList != (rdOf ByteArray.empty l1_0 x16_1).toList) = false := bne_eq_false_iff_eq.mpr c13
         clear c13
         have H' := aA H
         clear H
         have hnb14 := NB204_205.out
         have hnc14 := NB205_204.out
         have hcz15_0 : wr.cell? ⟨gb204, 0, none⟩ = some (.slice A0_0 l0_0.length c0_0) := (blk_cell BK204.out 0).trans rfl
         have hfz15_0 := blk_frozen BK204.out 0
         have p206 : 0 ≤ (x16_1 : Int) := of_decide_eq_true (by first | (with_reducible assumption) | assumption)
         have q206 : x16_1 < (l0_0.length : Int) := of_decide_eq_true (by first | (with_reducible assumption) | assumption)
         obtain ⟨ad206, e206, hx206_0⟩ := Kd.at_string HR0_0.out x16_1 p206 q206
         cases e206
         replace hx206_0 := (HB.out.cell (World.block_lt_of_cell? w _ hx206_0)).trans hx206_0
         replace p206 := eq_true p206
         replace q206 := eq_true q206
         have hcz16_0 : wr.cell? ⟨gb205, 0, none⟩ = some (.slice A1_0 l1_0.length c1_0) := (blk_cell BK205.out 0).trans rfl
         have hfz16_0 := blk_frozen BK205.out 0
         have p207 : 0 ≤ (x16_1 : Int) := of_decide_eq_true (by first | (with_reducible assumption) | assumption)
         have q207 : x16_1 < (l1_0.length : Int) := of_decide_eq_true (by first | (with_reducible assumption) | assumption)
         obtain ⟨ad207, e207, hx207_0⟩ := Kd.at_string HR1_0.out x16_1 p207 q207
         cases e207
         replace hx207_0 := (HB.out.cell (World.block_lt_of_cell? w _ hx207_0)).trans hx207_0
         replace p207 := eq_true p207
         replace q207 := eq_true q207
         go_wp2
         repeat (go_quiet (fail); try go_wp2)
         go_roundg k1
         case measure => have := HK1.out; omega
         case rel => exact ⟨(wrap64 (x16_1 + 1)), (by first | rfl | (simp; done) | (simp [*]; done)), H', ⟨by have := HK1.out; omega⟩, ⟨by (with_reducible repeat (first | refine blk_drewN ?_ _ | refine blk_drew ?_ | refine blk_alloc ?_ _)); exact BK204.out⟩, ⟨by (with_reducible repeat (first | refine blk_drewN ?_ _ | refine blk_drew ?_ | refine blk_alloc ?_ _)); exact BK205.out⟩, ⟨by repeat (first | (with_reducible first | exact HB.out | apply below_alloc | apply pw_below_drewN | apply below_drew1 | refine below_set ?_ GE204.out | refine below_set ?_ GE205.out) | exact HB.out)⟩⟩
        ·rw [if_neg c13] at H
         have c13b0 : ((rdOf ByteArray.empty l0_0 x16_1).toList == (rdOf ByteArray.empty l1_0 x16_1).toList) = false := beq_eq_false_iff_ne.mpr c13
         have c13b1 : ((rdOf ByteArray.empty l0_0 x16_1).toList != (rdOf ByteArray.empty l1_0 x16_1).toList) = true := bne_iff_ne.mpr c13
         obtain rfl := Option.some.inj H
         have hnb17 := NB204_205.out
         have hnc17 := NB205_204.out
         have hcz18_0 : wr.cell? ⟨gb204, 0, none⟩ = some (.slice A0_0 l0_0.length c0_0) := (blk_cell BK204.out 0).trans rfl
         have hfz18_0 := blk_frozen BK204.out 0
         have p206 : 0 ≤ (x16_1 : Int) := of_decide_eq_true (by first | (with_reducible assumption) | assumption)
         have q206 : x16_1 < (l0_0.length : Int) := of_decide_eq_true (by first | (with_reducible assumption) | assumption)
         obtain ⟨ad206, e206, hx206_0⟩ := Kd.at_string HR0_0.out x16_1 p206 q206
         cases e206
         replace hx206_0 := (HB.out.cell (World.block_lt_of_cell? w _ hx206_0)).trans hx206_0
         replace p206 := eq_true p206
         replace q206 := eq_true q206
         have hcz19_0 : wr.cell? ⟨gb205, 0, none⟩ = some (.slice A1_0 l1_0.length c1_0) := (blk_cell BK205.out 0).trans rfl
         have hfz19_0 := blk_frozen BK205.out 0
         have p207 : 0 ≤ (x16_1 : Int) := of_decide_eq_true (by first | (with_reducible assumption) | assumption)
         have q207 : x16_1 < (l1_0.length : Int) := of_decide_eq_true (by first | (with_reducible assumption) | assumption)
         obtain ⟨ad207, e207, hx207_0⟩ := Kd.at_string HR1_0.out x16_1 p207 q207
         cases e207
         replace hx207_0 := (HB.out.cell (World.block_lt_of_cell? w _ hx207_0)).trans hx207_0
         replace p207 := eq_true p207
         replace q207 := eq_true q207
         go_wp2
         repeat (go_quiet (fail); try go_wp2)
         go_ret
         exact ⟨by first | rfl | (simp [errW_none, errW_some] <;> rfl) | (simp [*, errW_none, errW_some] <;> rfl), by repeat (first | (with_reducible first | exact HB.out | apply below_alloc | apply pw_below_drewN | apply below_drew1 | refine below_set ?_ GE204.out | refine below_set ?_ GE205.out) | exact HB.out)⟩
       ·rw [if_neg c12] at H
        exact absurd H (by simp)
      ·rw [if_neg c11] at H
       exact absurd H (by simp)
     ·rw [if_neg c10] at H
      exact absurd H (by simp)
    ·rw [if_neg c9] at H
     have c9b0 : decide (x16_1 < (l0_0.length : Int)) = false := decide_eq_false c9
     clear c9
     obtain rfl := Option.some.inj H
     go_wp2
     repeat (go_quiet (fail); try go_wp2)
     go_ret
     exact ⟨by first | rfl | (simp [errW_none, errW_some] <;> rfl) | (simp [*, errW_none, errW_some] <;> rfl), by repeat (first | (with_reducible first | exact HB.out | apply below_alloc | apply pw_below_drewN | apply below_drew1 | refine below_set ?_ GE204.out | refine below_set ?_ GE205.out) | exact HB.out)⟩
 ·rw [if_neg c3] at H
  have c3b0 : ((l0_0.length : Int) == (l1_0.length : Int)) = false := beq_eq_false_iff_ne.mpr c3
  have c3b1 : ((l0_0.length : Int) != (l1_0.length : Int)) = true := bne_iff_ne.mpr c3
  have c3b2 : (l0_0.length == l1_0.length) = false := by first | simpa using c3 | (simp at c3 ⊢; omega)
  obtain rfl := Option.some.inj H
  go_enter Try.func31, Try.ntmps31
  go_wp2_with (first | ((with_reducible refine gate_dst (N := 2) rfl ?_); refine box_event ?hg (N := 2) ?hd (cs := #[.slice A0_0 l0_0.length c0_0]) (t := 24) ?hr ?_; (case hd => rfl); (case hg => rfl); (case hr => first | (go_simp; done) | (go_simp; rfl)); intro gb204 hg w20 hbox hb; have n0_ := aA (below_step mB hb); have n1_ := aA (hbox); have n2_ := aA ((bZ hg mB)); have n3_ := aA ((bZ hg mB)); clear HB; have HB := n0_; have BK204 := n1_; have GW204 := n2_; have GE204 := n3_; clear n0_ n1_ n2_ n3_ hb hbox hg) | ((with_reducible refine gate_dst (N := 3) rfl ?_); refine box_event ?hg (N := 3) ?hd (cs := #[.slice A1_0 l1_0.length c1_0]) (t := 24) ?hr ?_; (case hd => rfl); (case hg => rfl); (case hr => first | (go_simp; done) | (go_simp; rfl)); intro gb205 hg w21 hbox hb; have n0_ := aA (bB BK204.out hb); have n1_ := aA (below_step (mD1 GE204.out) hb); have n2_ := aA (hbox); have n3_ := aA ((bZ hg (mD1 GE204.out))); have n4_ := aA ((bZ hg (mD1 GE204.out))); have n5_ := aA ((bL hg BK204.out)); have n6_ := aA ((bG hg BK204.out)); clear BK204 HB; have BK204 := n0_; have HB := n1_; have BK205 := n2_; have GW205 := n3_; have GE205 := n4_; have NB204_205 := n5_; have NB205_204 := n6_; clear n0_ n1_ n2_ n3_ n4_ n5_ n6_ hb hbox hg; have hnb22 := NB204_205.out; have hnc22 := NB205_204.out; have hcz23_0 : w21.cell? ⟨gb204, 0, none⟩ = some (.slice A0_0 l0_0.length c0_0) := (blk_cell BK204.out 0).trans rfl; have hfz23_0 := blk_frozen BK204.out 0; have hcz24_0 : w21.cell? ⟨gb205, 0, none⟩ = some (.slice A1_0 l1_0.length c1_0) := (blk_cell BK205.out 0).trans rfl; have hfz24_0 := blk_frozen BK205.out 0))
  repeat (go_quiet (first | ((with_reducible refine gate_dst (N := 2) rfl ?_); refine box_event ?hg (N := 2) ?hd (cs := #[.slice A0_0 l0_0.length c0_0]) (t := 24) ?hr ?_; (case hd => rfl); (case hg => rfl); (case hr => first | (go_simp; done) | (go_simp; rfl)); intro gb204 hg w20 hbox hb; have n0_ := aA (below_step mB hb); have n1_ := aA (hbox); have n2_ := aA ((bZ hg mB)); have n3_ := aA ((bZ hg mB)); clear HB; have HB := n0_; have BK204 := n1_; have GW204 := n2_; have GE204 := n3_; clear n0_ n1_ n2_ n3_ hb hbox hg) | ((with_reducible refine gate_dst (N := 3) rfl ?_); refine box_event ?hg (N := 3) ?hd (cs := #[.slice A1_0 l1_0.length c1_0]) (t := 24) ?hr ?_; (case hd => rfl); (case hg => rfl); (case hr => first | (go_simp; done) | (go_simp; rfl)); intro gb205 hg w21 hbox hb; have n0_ := aA (bB BK204.out hb); have n1_ := aA (below_step (mD1 GE204.out) hb); have n2_ := aA (hbox); have n3_ := aA ((bZ hg (mD1 GE204.out))); have n4_ := aA ((bZ hg (mD1 GE204.out))); have n5_ := aA ((bL hg BK204.out)); have n6_ := aA ((bG hg BK204.out)); clear BK204 HB; have BK204 := n0_; have HB := n1_; have BK205 := n2_; have GW205 := n3_; have GE205 := n4_; have NB204_205 := n5_; have NB205_204 := n6_; clear n0_ n1_ n2_ n3_ n4_ n5_ n6_ hb hbox hg; have hnb22 := NB204_205.out; have hnc22 := NB205_204.out; have hcz23_0 : w21.cell? ⟨gb204, 0, none⟩ = some (.slice A0_0 l0_0.length c0_0) := (blk_cell BK204.out 0).trans rfl; have hfz23_0 := blk_frozen BK204.out 0; have hcz24_0 : w21.cell? ⟨gb205, 0, none⟩ = some (.slice A1_0 l1_0.length c1_0) := (blk_cell BK205.out 0).trans rfl; have hfz24_0 := blk_frozen BK205.out 0)); try go_wp2_with (first | ((with_reducible refine gate_dst (N := 2) rfl ?_); refine box_event ?hg (N := 2) ?hd (cs := #[.slice A0_0 l0_0.length c0_0]) (t := 24) ?hr ?_; (case hd => rfl); (case hg => rfl); (case hr => first | (go_simp; done) | (go_simp; rfl)); intro gb204 hg w20 hbox hb; have n0_ := aA (below_step mB hb); have n1_ := aA (hbox); have n2_ := aA ((bZ hg mB)); have n3_ := aA ((bZ hg mB)); clear HB; have HB := n0_; have BK204 := n1_; have GW204 := n2_; have GE204 := n3_; clear n0_ n1_ n2_ n3_ hb hbox hg) | ((with_reducible refine gate_dst (N := 3) rfl ?_); refine box_event ?hg (N := 3) ?hd (cs := #[.slice A1_0 l1_0.length c1_0]) (t := 24) ?hr ?_; (case hd => rfl); (case hg => rfl); (case hr => first | (go_simp; done) | (go_simp; rfl)); intro gb205 hg w21 hbox hb; have n0_ := aA (bB BK204.out hb); have n1_ := aA (below_step (mD1 GE204.out) hb); have n2_ := aA (hbox); have n3_ := aA ((bZ hg (mD1 GE204.out))); have n4_ := aA ((bZ hg (mD1 GE204.out))); have n5_ := aA ((bL hg BK204.out)); have n6_ := aA ((bG hg BK204.out)); clear BK204 HB; have BK204 := n0_; have HB := n1_; have BK205 := n2_; have GW205 := n3_; have GE205 := n4_; have NB204_205 := n5_; have NB205_204 := n6_; clear n0_ n1_ n2_ n3_ n4_ n5_ n6_ hb hbox hg; have hnb22 := NB204_205.out; have hnc22 := NB205_204.out; have hcz23_0 : w21.cell? ⟨gb204, 0, none⟩ = some (.slice A0_0 l0_0.length c0_0) := (blk_cell BK204.out 0).trans rfl; have hfz23_0 := blk_frozen BK204.out 0; have hcz24_0 : w21.cell? ⟨gb205, 0, none⟩ = some (.slice A1_0 l1_0.length c1_0) := (blk_cell BK205.out 0).trans rfl; have hfz24_0 := blk_frozen BK205.out 0)))
  go_ret
  exact ⟨by first | rfl | (simp [errW_none, errW_some] <;> rfl) | (simp [*, errW_none, errW_some] <;> rfl), by repeat (first | (with_reducible first | exact HB.out | apply below_alloc | apply pw_below_drewN | apply below_drew1 | refine below_set ?_ GE204.out | refine below_set ?_ GE205.out) | exact HB.out)⟩
end Go.Proofs.YtopaddpclipnjaaQ.P
